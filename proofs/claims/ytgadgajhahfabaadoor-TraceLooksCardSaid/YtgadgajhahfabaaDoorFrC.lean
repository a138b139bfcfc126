/- The framework, part 3: values, memory, verification conditions, walks; it states no property of the program. -/
import Derived.Test.YtgadgajhahfabaaDoorFrB
import Derived.Deep.Upon
import Derived.Lib.AppendZerosOnto
import Derived.Lib.Overlaps
import Derived.LoopN
/- Rows of a block that grow, and what is done with them: the telling of append, copy, clear, make, stores into elements. -/
namespace Go.Pv
open Go.RowKit

section
variable {P : Program} {G : Gl} {T : Nat → Option TI} {o : Oper} {rh : Operand → AV} {L L1 L2 : List AB} {s s1 s2 : List (Nat × AB)} {M M1 M2 : Mp} {F F1 F2 U U1 U2 : Nat → Prop} {w w1 w2 : World} {v v1 v2 : AV} {val val1 val2 : Value}

theorem Eff.trans (h : Eff M F U s w L1 s1 v1 val1 M1 F1 U1 w1) (k : Eff M1 F1 U1 s1 w1 L2 s2 v2 val2 M2 F2 U2 w2) : Eff M F U s w L2 s2 v2 val2 M2 F2 U2 w2 := by
  have hl : ∀ b, LiveG M1.g s1 b → w.heap.size ≤ b ∨ LiveG M.g s b ∨ ∃ k, M.l k = some b := fun b ⟨id, ab, q1, q2, q3⟩ => h.lg id ab b q1 q2 q3
  have hsz := h.ext.size
  refine ⟨h.le.trans k.le, fun b q => k.FF b (h.FF b q), fun b q => k.UU b (h.UU b q), h.ext.trans k.ext h.UU, k.st, k.rv, fun b q => ?_, fun n b q => ?_, fun id ab b q1 q2 q3 => ?_, fun id ab q => ?_⟩
  · rcases k.Fn b q with q | q | q | ⟨n, q⟩
    · exact h.Fn b q
    · exact .inr (.inl (by omega))
    · rcases hl b q with q | q | q
      · exact .inr (.inl q)
      · exact .inr (.inr (.inl q))
      · exact .inr (.inr (.inr q))
    · rcases h.ll n b q with q | q
      · exact .inr (.inl q)
      · exact .inr (.inr (.inr q))
  · rcases k.ll n b q with q | ⟨n', q⟩
    · exact .inl (by omega)
    · exact h.ll n' b q
  · rcases k.lg id ab b q1 q2 q3 with q | q | ⟨n, q⟩
    · exact .inl (by omega)
    · exact hl b q
    · rcases h.ll n b q with q | q
      · exact .inl q
      · exact .inr (.inr q)
  · rcases k.ids id ab q with ⟨ab0, q⟩ | q
    · exact h.ids id ab0 q
    · cases hg : M.g id with
      | none => exact .inr rfl
      | some b => have := h.le (.g id) b hg; simp only [Mp.at_] at this; rw [this] at q; cases q
theorem Eff.tell (h : Eff M F U s w L1 s1 v1 val1 M1 F1 U1 w1) (hv : RV M1 F1 w1 v2 val2) : Eff M F U s w L1 s1 v2 val2 M1 F1 U1 w1 :=
  ⟨h.le, h.FF, h.UU, h.ext, h.st, hv, h.Fn, h.ll, h.lg, h.ids⟩
theorem Eff.same (hS : St M F U L s w) : Eff M F U s w L s .undef Go.undef M F U w :=
  ⟨.refl M, fun _ h => h, fun _ h => h, .refl _ _, hS, .undef _, fun _ h => .inl h, fun k _ h => .inr ⟨k, h⟩, fun id ab _ h1 h2 h3 => .inr (.inl ⟨id, ab, h1, h2, h3⟩), fun _ ab h => .inl ⟨ab, h⟩⟩

theorem ext_drewN (U : Nat → Prop) (w : World) : Ext U w w.drew := ⟨rfl, rfl, rfl, Nat.le_refl _, fun _ _ => rfl, fun _ _ => rfl⟩
theorem St.ext (hS : St M F U L s w) {w' : World} (hX : ∀ U, Ext U w w') (hh : w'.heap = w.heap) : St M F U L s w' := by
  refine ⟨fun r ab b hr hm => (hS.rb r ab b hr hm).mono (.refl _) (fun _ h => h) hS.FU (hX U) (fun _ => by rw [hh]), hS.inj, hS.nU, hS.nd, hS.FU, fun b hb => by rw [hh]; exact hS.Ult b hb, hS.dom, hS.tot, hS.gdom⟩
theorem eff_drew (hS : St M F U L s w) : Eff M F U s w L s .undef Go.undef M F U w.drew :=
  ⟨.refl M, fun _ h => h, fun _ h => h, ext_drewN _ _, hS.ext (fun U => ext_drewN U w) rfl, .undef _, fun _ h => .inl h, fun k _ h => .inr ⟨k, h⟩, fun id ab _ h1 h2 h3 => .inr (.inl ⟨id, ab, h1, h2, h3⟩), fun _ ab h => .inl ⟨ab, h⟩⟩

theorem sput_mem {s : List (Nat × AB)} (hnd : (s.map (·.1)).Nodup) {id : Nat} {ab ab0 : AB} (hm : sfind s id = some ab0) : ∀ i x, (i, x) ∈ sput s id ab ↔ (i = id ∧ x = ab) ∨ (i ≠ id ∧ (i, x) ∈ s) := by
  have hp := Put.gput (L := []) ab hm
  intro i x
  obtain ⟨hsp, hids, _⟩ := hp.spec hnd
  constructor
  · intro h
    rcases hsp (.g i) x h with ⟨e, rfl⟩ | ⟨h1, h2⟩
    · cases e; exact .inl ⟨rfl, rfl⟩
    · exact .inr ⟨fun e => h1 (by rw [e]), h2⟩
  · have hids' : (sput s id ab).map (·.1) = s.map (·.1) := hids
    rintro (⟨rfl, rfl⟩ | ⟨h1, h2⟩)
    · have : i ∈ (sput s i x).map (·.1) := by
        rw [hids']
        exact List.mem_map.2 ⟨_, sfind_mem hm, rfl⟩
      obtain ⟨⟨j, y⟩, q1, q2⟩ := List.mem_map.1 this
      simp only at q2
      subst q2
      rcases hsp (.g j) y q1 with ⟨_, rfl⟩ | ⟨q3, _⟩
      · exact q1
      · exact absurd rfl q3
    · have : i ∈ (sput s id ab).map (·.1) := by
        rw [hids']
        exact List.mem_map.2 ⟨_, h2, rfl⟩
      obtain ⟨⟨j, y⟩, q1, q2⟩ := List.mem_map.1 this
      simp only at q2
      subst q2
      rcases hsp (.g j) y q1 with ⟨e, _⟩ | ⟨_, q3⟩
      · cases e; exact absurd rfl h1
      · have hn := hnd
        have key : ∀ {s : List (Nat × AB)}, (s.map (·.1)).Nodup → (j, y) ∈ s → (j, x) ∈ s → y = x := by
          intro s
          induction s with
          | nil => intro _ h; cases h
          | cons z r ih =>
            intro hn h1 h2
            simp only [List.map_cons, List.nodup_cons] at hn
            rcases List.mem_cons.1 h1 with e | h1 <;> rcases List.mem_cons.1 h2 with e' | h2
            · rw [← e] at e'; cases e'; rfl
            · exact absurd (List.mem_map.2 ⟨_, h2, by rw [← e]⟩) hn.1
            · exact absurd (List.mem_map.2 ⟨_, h1, by rw [← e']⟩) hn.1
            · exact ih hn.2 h1 h2
        rw [← key hn q3 h2]
        exact q1
theorem sput_ids {s : List (Nat × AB)} {id : Nat} {ab ab0 : AB} (hnd : (s.map (·.1)).Nodup) (hm : sfind s id = some ab0) : (sput s id ab).map (·.1) = s.map (·.1) := ((Put.gput (L := []) ab hm).spec hnd).2.1

/-- An object that is not wanted any more. -/
theorem eff_kill (hS : St M F U L s w) {id : Nat} {ab0 : AB} (hm : sfind s id = some ab0) : Eff M F U s w L (sput s id .dead) .undef Go.undef M F U w := by
  have hmem := sput_mem hS.nd (ab := .dead) hm
  have old : ∀ r ab, Here L (sput s id .dead) r ab → ab ≠ .dead → Here L s r ab := by
    intro r ab h hd
    cases r with
    | l k => exact h
    | g i =>
      rcases (hmem i ab).1 h with ⟨_, rfl⟩ | ⟨_, h⟩
      · exact absurd rfl hd
      · exact h
  have hidm : ∀ i ab, (i, ab) ∈ sput s id .dead → ∃ ab0, (i, ab0) ∈ s := fun i ab h => by
    rcases (hmem i ab).1 h with ⟨rfl, _⟩ | ⟨_, h⟩
    · exact ⟨_, sfind_mem hm⟩
    · exact ⟨_, h⟩
  refine ⟨.refl M, fun _ h => h, fun _ h => h, .refl _ _, ?_, .undef _, fun _ h => .inl h, fun k b h => .inr ⟨k, h⟩, fun i ab b h1 h2 h3 => .inr (.inl ⟨i, ab, old (.g i) ab h1 h2, h2, h3⟩), fun i ab h => .inl (hidm i ab h)⟩
  refine ⟨fun r ab b hr hm' => ?_, fun r r' a1 a2 b h1 h2 d1 d2 m1 m2 => hS.inj r r' a1 a2 b (old r a1 h1 d1) (old r' a2 h2 d2) d1 d2 m1 m2, fun r ab b hr hd hm' => hS.nU r ab b (old r ab hr hd) hd hm', by rw [sput_ids hS.nd hm]; exact hS.nd, hS.FU, hS.Ult, hS.dom, fun i ab h => ?_, fun i h => hS.gdom i fun ab hab => ?_⟩
  · by_cases hd : ab = .dead
    · subst hd; trivial
    · exact hS.rb r ab b (old r ab hr hd) hm'
  · obtain ⟨a, h'⟩ := hidm i ab h
    exact hS.tot i a h'
  · by_cases e : i = id
    · subst e; exact h .dead ((hmem i _).2 (.inl ⟨rfl, rfl⟩))
    · exact h ab ((hmem i _).2 (.inr ⟨e, hab⟩))

/-- An object under another name; its old one stands for nothing any more. -/
theorem eff_move (hS : St M F U L s w) {id n b : Nat} {ab : AB} (hm : sfind s id = some ab) (hn : sfind s n = none) (hb : M.g id = some b) (hd : ab ≠ .dead) :
    Eff M F U s w L (sput s id .dead ++ [(n, ab)]) .undef Go.undef (M.putG n b) F U w := by
  have hmem := sput_mem hS.nd (ab := .dead) hm
  have hfr := sfind_none hn
  have hgn : M.g n = none := hS.gdom n hfr
  have hle : M.Le (M.putG n b) := by
    intro r b' h
    cases r with
    | l k => exact h
    | g i =>
      simp only [Mp.at_, Mp.putG] at h ⊢
      by_cases e : i = n
      · subst e; rw [hgn] at h; cases h
      · rw [if_neg e]; exact h
  have hold : ∀ r, r ≠ .g n → (M.putG n b).at_ r = M.at_ r := by
    intro r hr
    cases r with
    | l k => rfl
    | g i => simp only [Mp.at_, Mp.putG]; rw [if_neg (fun e => hr (by rw [e]))]
  have hself : (M.putG n b).at_ (.g n) = some b := by simp [Mp.at_, Mp.putG]
  have hne : id ≠ n := fun e => hfr ab (e ▸ sfind_mem hm)
  -- each live place of the new telling: one of the old
  have old : ∀ r ab', Here L (sput s id .dead ++ [(n, ab)]) r ab' → ab' ≠ .dead → (r ≠ .g n ∧ r ≠ .g id ∧ Here L s r ab') ∨ (r = .g n ∧ ab' = ab) := by
    intro r ab' h hd'
    cases r with
    | l k => exact .inl ⟨by simp, by simp, h⟩
    | g i =>
      simp only [Here, List.mem_append, List.mem_singleton] at h
      rcases h with h | h
      · rcases (hmem i ab').1 h with ⟨_, rfl⟩ | ⟨h1, h⟩
        · exact absurd rfl hd'
        · exact .inl ⟨fun e => (by cases e; exact hfr _ h), fun e => (by cases e; exact h1 rfl), h⟩
      · cases h; exact .inr ⟨rfl, rfl⟩
  have hidm : ∀ i ab', (i, ab') ∈ sput s id .dead ++ [(n, ab)] → (∃ ab0, (i, ab0) ∈ s) ∨ i = n := fun i ab' h => by
    simp only [List.mem_append, List.mem_singleton] at h
    rcases h with h | h
    · rcases (hmem i ab').1 h with ⟨rfl, _⟩ | ⟨_, h⟩
      · exact .inl ⟨_, sfind_mem hm⟩
      · exact .inl ⟨_, h⟩
    · cases h; exact .inr rfl
  refine ⟨hle, fun _ h => h, fun _ h => h, .refl _ _, ?_, .undef _, fun _ h => .inl h, fun k b h => .inr ⟨k, h⟩, fun i ab' b' h1 h2 h3 => ?_, fun i ab' h => ?_⟩
  · refine ⟨fun r ab' b' hr hm' => ?_, fun r r' a1 a2 b' h1 h2 d1 d2 m1 m2 => ?_, fun r ab' b' hr hd' hm' => ?_, ?_, hS.FU, hS.Ult, hS.dom, fun i ab' h => ?_, fun i h => ?_⟩
    · by_cases hd' : ab' = .dead
      · subst hd'; trivial
      · rcases old r ab' hr hd' with ⟨q1, _, q⟩ | ⟨rfl, rfl⟩
        · rw [hold r q1] at hm'
          exact (hS.rb r ab' b' q hm').mono (hle.sub r) (fun _ h => h) hS.FU (.refl _ _) (fun _ => rfl)
        · rw [hself] at hm'
          cases hm'
          exact (hS.rb (.g id) _ b (sfind_mem hm) hb).mono hle.glo (fun _ h => h) hS.FU (.refl _ _) (fun _ => rfl)
    · rcases old r a1 h1 d1 with ⟨q1, q2, q3⟩ | ⟨rfl, rfl⟩ <;> rcases old r' a2 h2 d2 with ⟨p1, p2, p3⟩ | ⟨rfl, rfl⟩
      · rw [hold r q1] at m1; rw [hold r' p1] at m2
        exact hS.inj r r' a1 a2 b' q3 p3 d1 d2 m1 m2
      · rw [hold r q1] at m1
        rw [hself] at m2
        cases m2
        exact absurd (hS.inj r (.g id) a1 _ b q3 (sfind_mem hm) d1 d2 m1 hb) q2
      · rw [hold r' p1] at m2
        rw [hself] at m1
        cases m1
        exact absurd (hS.inj r' (.g id) a2 _ b p3 (sfind_mem hm) d2 d1 m2 hb) p2
      · rfl
    · rcases old r ab' hr hd' with ⟨q1, _, q⟩ | ⟨rfl, rfl⟩
      · rw [hold r q1] at hm'
        exact hS.nU r ab' b' q hd' hm'
      · rw [hself] at hm'
        cases hm'
        exact hS.nU (.g id) _ b (sfind_mem hm) hd hb
    · rw [List.map_append, sput_ids hS.nd hm]
      refine List.nodup_append.2 ⟨hS.nd, by simp, fun x hx y hy e => ?_⟩
      simp only [List.map_cons, List.map_nil, List.mem_singleton] at hy
      subst hy
      subst e
      obtain ⟨⟨i, a⟩, h1, h2⟩ := List.mem_map.1 hx
      simp only at h2
      subst h2
      exact hfr a h1
    · rcases hidm i ab' h with ⟨a, h'⟩ | rfl
      · obtain ⟨b', hb'⟩ := hS.tot i a h'
        exact ⟨b', hle (.g i) b' hb'⟩
      · exact ⟨_, hself⟩
    · have hin : i ≠ n := fun e => h ab (by rw [e]; simp)
      have := hold (.g i) (fun e => hin (by cases e; rfl))
      simp only [Mp.at_] at this
      rw [this]
      refine hS.gdom i fun ab' hab => ?_
      by_cases e : i = id
      · subst e
        exact h .dead (by simp only [List.mem_append]; exact .inl ((hmem i _).2 (.inl ⟨rfl, rfl⟩)))
      · exact h ab' (by simp only [List.mem_append]; exact .inl ((hmem i _).2 (.inr ⟨e, hab⟩)))
  · rcases old (.g i) ab' h1 h2 with ⟨q1, _, q⟩ | ⟨e, rfl⟩
    · have := hold (.g i) q1
      simp only [Mp.at_] at this
      rw [this] at h3
      exact .inr (.inl ⟨i, ab', q, h2, h3⟩)
    · cases e
      have h4 : (M.putG n b).g n = some b := hself
      rw [h4] at h3
      cases h3
      exact .inr (.inl ⟨id, _, sfind_mem hm, h2, hb⟩)
  · rcases hidm i ab' h with h | rfl
    · exact .inl h
    · exact .inr hgn

/-- The same object, of which less is told. -/
theorem eff_less (hS : St M F U L s w) {id : Nat} {ab ab' : AB} (hm : sfind s id = some ab) (hd : ab ≠ .dead) (h : ∀ b, RB M.glo F w b ab → RB M.glo F w b ab') : Eff M F U s w L (sput s id ab') .undef Go.undef M F U w := by
  have hmem := sput_mem hS.nd (ab := ab') hm
  have old : ∀ r a, Here L (sput s id ab') r a → a ≠ .dead → ∃ a0, Here L s r a0 ∧ a0 ≠ .dead := by
    intro r a h hd'
    cases r with
    | l k => exact ⟨a, h, hd'⟩
    | g i =>
      rcases (hmem i a).1 h with ⟨rfl, _⟩ | ⟨_, h⟩
      · exact ⟨ab, sfind_mem hm, hd⟩
      · exact ⟨a, h, hd'⟩
  have hidm : ∀ i a, (i, a) ∈ sput s id ab' → ∃ ab0, (i, ab0) ∈ s := fun i a h => by
    rcases (hmem i a).1 h with ⟨rfl, _⟩ | ⟨_, h⟩
    · exact ⟨_, sfind_mem hm⟩
    · exact ⟨_, h⟩
  refine ⟨.refl M, fun _ h => h, fun _ h => h, .refl _ _, ?_, .undef _, fun _ h => .inl h, fun k b h => .inr ⟨k, h⟩, fun i a b h1 h2 h3 => ?_, fun i a h => .inl (hidm i a h)⟩
  · refine ⟨fun r a b hr hm' => ?_, fun r r' a1 a2 b h1 h2 d1 d2 m1 m2 => ?_, fun r a b hr hd hm' => ?_, by rw [sput_ids hS.nd hm]; exact hS.nd, hS.FU, hS.Ult, hS.dom, fun i a h => ?_, fun i h => hS.gdom i fun a hab => ?_⟩
    · cases r with
      | l k => exact hS.rb (.l k) a b hr hm'
      | g i =>
        rcases (hmem i a).1 hr with ⟨rfl, rfl⟩ | ⟨_, hr⟩
        · exact h b (hS.rb (.g i) ab b (sfind_mem hm) hm')
        · exact hS.rb (.g i) a b hr hm'
    · obtain ⟨b1, p1, p2⟩ := old r a1 h1 d1
      obtain ⟨b2, q1, q2⟩ := old r' a2 h2 d2
      exact hS.inj r r' b1 b2 b p1 q1 p2 q2 m1 m2
    · obtain ⟨b1, p1, p2⟩ := old r a hr hd
      exact hS.nU r b1 b p1 p2 hm'
    · obtain ⟨a0, h'⟩ := hidm i a h
      exact hS.tot i a0 h'
    · by_cases e : i = id
      · subst e; exact h ab' ((hmem i _).2 (.inl ⟨rfl, rfl⟩))
      · exact h a ((hmem i _).2 (.inr ⟨e, hab⟩))
  · obtain ⟨a0, p1, p2⟩ := old (.g i) a h1 h2
    exact .inr (.inl ⟨i, a0, p1, p2, h3⟩)
theorem sput_same {s : List (Nat × AB)} {id : Nat} {ab : AB} (h : sfind s id = some ab) : sput s id ab = s := by
  induction s with
  | nil => simp [sfind] at h
  | cons x r ih =>
    obtain ⟨i, y⟩ := x
    simp only [sfind] at h
    cases hb : Nat.beq i id with
    | true => rw [hb] at h; cases h; simp [sput, hb]
    | false => rw [hb] at h; simp only [sput, hb]; rw [ih h]

theorem Yields.src {sz : Nat} {u : Value} {rows : List (List DV)} (h : Yields F w sz u rows) (hsz : 0 < sz) {tx e' : TypeId} (hk : P.underlying tx = some (.slice e')) :
    ∃ vals : List Value, Src P sz tx u rows.length vals w ∧ RowV F w sz rows vals ∧ vals.length = rows.length * sz := by
  obtain ⟨A, c, vals, rfl, hc, hl, hr, hcell⟩ := h
  refine ⟨vals, ?_, hr, hl⟩
  cases A with
  | some a =>
    exact Src.ofSlice w hk a _ c vals hl (fun j x hx => by obtain ⟨a', e, q⟩ := hcell j x hx; cases e; exact q) hr.one
  | none =>
    have hz : rows.length = 0 := by
      rcases Nat.eq_zero_or_pos rows.length with e | e
      · exact e
      · exfalso
        have h1 : 0 < vals.length := by rw [hl]; exact Nat.mul_pos e hsz
        obtain ⟨a, q, _⟩ := hcell 0 _ (List.getElem?_eq_getElem h1)
        cases q
    have hv : vals = [] := by
      cases vals with
      | nil => rfl
      | cons x r => rw [hz] at hl; simp at hl
    subst hv
    rw [hz]
    exact Src.ofNil w hk c

/-! ### append -/
theorem nextcap_le (need old : Nat) (h : old < need) : Builtin.nextslicecap need old ≤ 2 * need + 1024 := by
  unfold Builtin.nextslicecap
  split
  · omega
  · split
    · omega
    · have key : ∀ (k c : Nat), c ≤ 2 * need + 1024 → Builtin.growBy need k c ≤ 2 * need + 1024 := by
        intro k
        induction k with
        | zero => intro c h; exact h
        | succ k ih =>
          intro c h
          unfold Builtin.growBy
          split
          · exact h
          · exact ih _ (by omega)
      exact key 4 old (by omega)
theorem run_append_call {x y : Operand} {t t2 : TypeId} (ho : o.op = .call { callee := .builtin .append, args := #[x, y], argTypes := #[t, t2] }) (a : Act) {val : Value} {w' : World}
    (h : (Builtin.append_ #[t, t2] o.type #[a.eval x, a.eval y]).run P w = .ok val w') : (execOp a.eval o).run P w = .ok (.value val) w' := by
  simp only [execOp, ho, resolve, invoke, builtin, Sem.run_bind, Sem.run_pure, Result.andThen_ok, List.map_toArray, List.map_cons, List.map_nil, h]

theorem TabOK.zeros (hT : TabOK P T) {e : TypeId} {te : TI} (hte : T e = some te) : ∃ i z, P.info? e = some i ∧ i.size = te.size ∧ i.bytes = te.bytes ∧ i.zero = some z ∧ z.cells.size = te.size ∧ ∀ v ∈ z.cells.toList, v.oneCell' = true := by
  obtain ⟨_, _, i, z, zs, q3, q4, q5, q6, q7, q8, q9, _⟩ := hT e te hte
  refine ⟨i, z, q3, q4, q5, q6, by rw [q7]; simpa using q9, fun v hv => ?_⟩
  rw [q7] at hv
  simp only [] at hv
  obtain ⟨j, hj⟩ := List.mem_iff_getElem?.1 hv
  have h1 : (zs.map some)[j]? = some (some v) := by rw [List.getElem?_map, hj]; rfl
  rw [← q8, List.getElem?_map] at h1
  obtain ⟨d, _, hd⟩ := Option.map_eq_some_iff.1 h1
  exact (dconst_RD (N := fun _ => True) (w := ⟨#[], fun _ _ => 0, 0, default, #[]⟩) hd).oneCell

theorem eff_grown (hS : St M F U L s w) {sz n C : Nat} {z : Array Value} {e : TypeId} {rowsA rowsB : List (List DV)} {olds news : List Value} (hz : z.size = sz) (hz1 : ∀ v ∈ z.toList, v.oneCell' = true)
    (hA : RowV F w sz rowsA olds) (hAl : olds.length = rowsA.length * sz) (hB : RowV F w sz rowsB news) (hBl : news.length = rowsB.length * sz) (hn : sfind s n = none) (hC : rowsA.length + rowsB.length ≤ C) :
    Eff M F U s w L (s ++ [(n, .row sz (rowsA ++ rowsB))]) (.slc (.g n) sz 0 (rowsA.length + rowsB.length) C) (.slice (some ⟨w.heap.size, 0, none⟩) (rowsA.length + rowsB.length) C) (M.putG n w.heap.size) F U
      (w.drew.alloc (.cells ((olds ++ news).toArray ++ Builtin.zeroCells z (C - (rowsA.length + rowsB.length))) e)) := by
  have hS1 := (eff_drew hS).st
  have hrow : RowV F w sz (rowsA ++ rowsB) ((olds ++ news).toArray ++ Builtin.zeroCells z (C - (rowsA.length + rowsB.length))).toList := by
    have h1 := hA.append hAl hB
    have h2 := h1.append (by simp [hAl, hBl, Nat.add_mul]) (RowV.nil (F := F) (w := w) (sz := sz) (zeroCells_mem (n := C - (rowsA.length + rowsB.length)) hz1))
    simpa using h2
  have hsize : ((olds ++ news).toArray ++ Builtin.zeroCells z (C - (rowsA.length + rowsB.length))).size = C * sz := by
    have h1 : (rowsA.length + rowsB.length) * sz + (C - (rowsA.length + rowsB.length)) * sz = C * sz := by
      rw [← Nat.add_mul]; congr 1; omega
    rw [Nat.add_mul] at h1
    simp [zeroCells_size, hz, hAl, hBl]
    omega
  have hE := (eff_drew hS).trans (eff_alloc (n := n) (ab := .row sz (rowsA ++ rowsB)) (v := .undef) (val := Go.undef) hS1 (.cells ((olds ++ news).toArray ++ Builtin.zeroCells z (C - (rowsA.length + rowsB.length))) e) hn (fun w' M' _ hX hnew => RB.of_row hnew (hrow.mono (fun _ h => h) (fun b hb => hX.block b (hS.Ult b (hS.FU b hb))))) (fun w' M' _ hm hX => .undef _))
  refine hE.tell ?_
  have := RV.slc (M := M.putG n w.heap.size) (F := F) (w := w.drew.alloc (.cells ((olds ++ news).toArray ++ Builtin.zeroCells z (C - (rowsA.length + rowsB.length))) e)) (.g n) sz 0 (rowsA.length + rowsB.length) C w.heap.size (by simp [Mp.at_, Mp.putG]) hC ⟨e, _, by
    have := heap_alloc_new w.drew (.cells ((olds ++ news).toArray ++ Builtin.zeroCells z (C - (rowsA.length + rowsB.length))) e)
    simp only [World.shape?]
    have hh : w.drew.heap.size = w.heap.size := rfl
    rw [hh] at this
    rw [this], by rw [hsize, Nat.zero_add]; exact Nat.le_refl _⟩
  simpa using this

theorem sfind_sput {s : List (Nat × AB)} {id : Nat} {ab0 ab : AB} (h : sfind s id = some ab0) : sfind (sput s id ab) id = some ab := by
  induction s with
  | nil => simp [sfind] at h
  | cons x r ih =>
    obtain ⟨i, y⟩ := x
    simp only [sfind] at h
    cases hb : Nat.beq i id with
    | true => simp [sput, hb, sfind]
    | false => rw [hb] at h; simp only [sput, hb, sfind]; exact ih h
theorem sfind_sput_ne {s : List (Nat × AB)} {id n : Nat} {ab : AB} (hne : id ≠ n) : sfind (sput s id ab) n = sfind s n := by
  induction s with
  | nil =>
    have : Nat.beq id n = false := by
      cases h : Nat.beq id n with
      | true => exact absurd (beq_t h) hne
      | false => rfl
    simp [sput, sfind, this]
  | cons x r ih =>
    obtain ⟨i, y⟩ := x
    cases hb : Nat.beq i id with
    | true =>
      have hi := beq_t hb
      subst hi
      have : Nat.beq i n = false := by
        cases h : Nat.beq i n with
        | true => exact absurd (beq_t h) hne
        | false => rfl
      simp only [sput, hb, sfind, this]
    | false =>
      simp only [sput, hb, sfind]
      split
      · rfl
      · exact ih
theorem sfind_ne {s : List (Nat × AB)} {id n : Nat} {ab : AB} (h : sfind s id = some ab) (hn : sfind s n = none) : id ≠ n := fun e => by rw [e, hn] at h; cases h
theorem sput_sput {s : List (Nat × AB)} {id : Nat} {a b : AB} : sput (sput s id a) id b = sput s id b := by
  induction s with
  | nil => simp [sput]
  | cons x r ih =>
    obtain ⟨i, y⟩ := x
    cases hb : Nat.beq i id with
    | true => simp [sput, hb]
    | false => simp [sput, hb, ih]
/-- Rows appended to nothing. -/
theorem ej_append_new {t t2 e e2 : TypeId} {ti t2i te : TI} (hT : TabOK P T) (ht : T t = some ti) (hu : ti.u = .slice e) (hte : T e = some te) (ht2 : T t2 = some t2i) (hu2 : t2i.u = .slice e2) (hsz : 0 < te.size)
    {x y : Operand} {n : Nat} {rows : List (List DV)} {K : AV → List AB → List (Nat × AB) → Prop} (ho : o.op = .call { callee := .builtin .append, args := #[x, y], argTypes := #[t, t2] })
    (hx1 : rh x = .d .nil ∨ rh x = .d .emp) (hy : srcK s te.size (rh y) fun q => q = rows) (hn : rows ≠ [] → sfind s n = none) (hbig : (2 * rows.length + 1024) * te.bytes ≤ 281474976710656) (h63 : rows.length ≤ 4611686018427387904)
    (hK0 : rows = [] → K (rh x) L s) (hK : rows ≠ [] → ∀ c, rows.length ≤ c → K (.slc (.g n) te.size 0 rows.length c) L (s ++ [(n, .row te.size rows)])) : EJ P G o rh L s K := by
  intro M F U w a hS hG hx
  have h1 := hx x (by simp [ho, Op.operands, Call.operands])
  have h2 := hx y (by simp [ho, Op.operands, Call.operands])
  obtain ⟨u1, _⟩ := hT t ti ht
  obtain ⟨u2, _⟩ := hT t2 t2i ht2
  rw [hu] at u1
  rw [hu2] at u2
  obtain ⟨i, z, q3, q4, q5, q6, q7, q8⟩ := hT.zeros hte
  obtain ⟨rows', hyl, rfl⟩ := srcK_yields hS h2 hy
  obtain ⟨vals, hsrc, hrow, hvl⟩ := hyl.src hsz u2
  obtain ⟨A, hA⟩ : ∃ A, a.eval x = .slice A 0 0 := by
    rcases hx1 with e | e <;> rw [e] at h1
    · exact ⟨none, h1.nil_inv⟩
    · generalize a.eval x = u at h1
      cases h1 with | d h1 => cases h1 with | emp A => exact ⟨A, rfl⟩
  by_cases hr : rows' = []
  · subst hr
    have hvn : vals = [] := by
      cases vals with
      | nil => rfl
      | cons x r => simp at hvl
    subst hvn
    have hrun : (Builtin.append_ #[t, t2] o.type #[a.eval x, a.eval y]).run P w = .ok (a.eval x) w := by
      rw [hA]
      exact run_append_nothing (P := P) w t t2 o.type e i u1 q3 A 0 0 (Nat.le_refl _) _ (by rw [q4]; exact hsrc)
    refine wp_value (run_append_call ho a hrun) ⟨_, L, s, _, M, F, U, hK0 rfl, rfl, (Eff.same hS).tell h1⟩
  · have hpos : 0 < rows'.length := List.length_pos_iff.2 hr
    have hfit := nextcap_le (0 + rows'.length) 0 (by omega)
    have hfit2 := Nat.mul_le_mul_right te.bytes hfit
    rw [Nat.zero_add] at hfit2
    have hgrow := run_append_grow_src (P := P) w t t2 o.type e i z u1 q3 q6 A 0 0 [] (by cases A with
      | none => exact run_firstCells_none _ _ _ _ _
      | some b => exact run_firstCells_some _ _ _ b _ _ [] (by simp) (fun j v h => by simp at h)) (a.eval y) rows'.length vals (by rw [q4]; exact hsrc) (by omega) (by omega) (by rw [q5, Nat.zero_add]; omega)
    rw [← hA] at hgrow
    have hge := grownCap_ge w (0 + rows'.length) 0 e
    have hE := eff_grown (n := n) (e := e) (C := grownCap w (0 + rows'.length) 0 e) hS q7 q8 (RowV.nil (F := F) (w := w) (sz := te.size) (vals := []) (by simp)) (by simp) hrow hvl (hn hr) (by simpa using hge)
    simp only [List.nil_append, List.length_nil, Nat.zero_add] at hE hgrow
    have hge' : rows'.length ≤ grownCap w rows'.length 0 e := by simpa using hge
    exact wp_value (run_append_call ho a hgrow) ⟨_, L, _, _, _, _, _, hK hr (grownCap w rows'.length 0 e) hge', rfl, hE⟩

/-- Rows appended to rows of our own: behind it they lie under a new name. -/
theorem ej_append_own {t t2 e e2 : TypeId} {ti t2i te : TI} (hT : TabOK P T) (ht : T t = some ti) (hu : ti.u = .slice e) (hte : T e = some te) (ht2 : T t2 = some t2i) (hu2 : t2i.u = .slice e2) (hsz : 0 < te.size)
    {x y : Operand} {n id len cap : Nat} {old rows : List (List DV)} {K : AV → List AB → List (Nat × AB) → Prop} (ho : o.op = .call { callee := .builtin .append, args := #[x, y], argTypes := #[t, t2] })
    (hx1 : rh x = .slc (.g id) te.size 0 len cap) (hid : sfind s id = some (.row te.size old)) (hlen : len ≤ old.length) (hy : srcK s te.size (rh y) fun q => q = rows) (hn : sfind s n = none) (hbig : (2 * (len + rows.length) + 1024) * te.bytes ≤ 281474976710656) (h63 : len + rows.length ≤ 4611686018427387904)
    (hK : ∀ c, len + rows.length ≤ c → K (.slc (.g n) te.size 0 (len + rows.length) c) L (sput s id .dead ++ [(n, .row te.size (old.take len ++ rows))])) : EJ P G o rh L s K := by
  intro M F U w a hS hG hx
  have h1 := hx x (by simp [ho, Op.operands, Call.operands])
  have h2 := hx y (by simp [ho, Op.operands, Call.operands])
  obtain ⟨u1, _⟩ := hT t ti ht
  obtain ⟨u2, _⟩ := hT t2 t2i ht2
  rw [hu] at u1
  rw [hu2] at u2
  obtain ⟨i, z, q3, q4, q5, q6, q7, q8⟩ := hT.zeros hte
  obtain ⟨rows', hyl, rfl⟩ := srcK_yields hS h2 hy
  obtain ⟨vals, hsrc, hrow, hvl⟩ := hyl.src hsz u2
  rw [hx1] at h1
  generalize hax : a.eval x = u at h1
  cases h1 with
  | slc0 _ _ _ A =>
    simp only [List.take_zero, List.nil_append, Nat.zero_add] at hK
    by_cases hr : rows' = []
    · subst hr
      have hvn : vals = [] := by
        cases vals with
        | nil => rfl
        | cons x r => simp at hvl
      subst hvn
      have hrun : (Builtin.append_ #[t, t2] o.type #[a.eval x, a.eval y]).run P w = .ok (.slice A 0 0) w := by
        rw [hax]
        exact run_append_nothing (P := P) w t t2 o.type e i u1 q3 A 0 0 (Nat.le_refl _) _ (by rw [q4]; exact hsrc)
      obtain ⟨b, hb⟩ := hS.tot id _ (sfind_mem hid)
      have hE0 := eff_less (ab' := .row te.size []) hS hid (by simp) (fun b h => by
        obtain ⟨arr, tt, g1, g2⟩ := h.row_of
        exact RB.of_row g1 (.nil g2.one))
      have hE1 := eff_move (n := n) hE0.st (sfind_sput hid) (by rw [sfind_sput_ne (sfind_ne hid hn)]; exact hn) hb (by simp)
      rw [sput_sput] at hE1
      exact wp_value (run_append_call ho a hrun) ⟨_, L, _, _, _, _, _, hK 0 (Nat.zero_le _), rfl, (hE0.trans hE1).tell (.slc0 _ _ _ A)⟩
    · have hpos : 0 < rows'.length := List.length_pos_iff.2 hr
      have hfit := nextcap_le (0 + rows'.length) 0 (by omega)
      have hfit2 := Nat.mul_le_mul_right te.bytes hfit
      rw [Nat.zero_add] at hfit2
      have hgrow := run_append_grow_src (P := P) w t t2 o.type e i z u1 q3 q6 A 0 0 [] (by cases A with
        | none => exact run_firstCells_none _ _ _ _ _
        | some b => exact run_firstCells_some _ _ _ b _ _ [] (by simp) (fun j v h => by simp at h)) (a.eval y) rows'.length vals (by rw [q4]; exact hsrc) (by omega) (by omega) (by rw [q5, Nat.zero_add]; simp only [Nat.zero_add] at hbig; omega)
      rw [← hax] at hgrow
      have hge := grownCap_ge w (0 + rows'.length) 0 e
      have hE0 := eff_kill hS hid
      have hE := eff_grown (n := n) (e := e) (C := grownCap w (0 + rows'.length) 0 e) hE0.st q7 q8 (RowV.nil (F := F) (w := w) (sz := te.size) (vals := []) (by simp)) (by simp) hrow hvl (by rw [sfind_sput_ne (sfind_ne hid hn)]; exact hn) (by simpa using hge)
      simp only [List.nil_append, List.length_nil, Nat.zero_add] at hE hgrow
      have hge' : rows'.length ≤ grownCap w rows'.length 0 e := by simpa using hge
      exact wp_value (run_append_call ho a hgrow) ⟨_, L, _, _, _, _, _, hK (grownCap w rows'.length 0 e) hge', rfl, hE0.trans hE⟩
  | slc _ _ _ _ _ b hm hc hs =>
    obtain ⟨arr, tt, hbk, hold⟩ := (hS.rb (.g id) _ b (sfind_mem hid) hm).row_of
    obtain ⟨tt2, nn, hs1, hs2⟩ := hs
    simp only [World.shape?, hbk, Option.some.injEq, Prod.mk.injEq] at hs1
    obtain ⟨rfl, rfl⟩ := hs1
    obtain ⟨g1, g2, g3⟩ := hold.seg (off := 0) (n := len) (by omega)
    simp only [List.drop_zero, Nat.zero_mul] at g1 g2 g3
    by_cases hroom : len + rows'.length ≤ cap
    · have hroom2 : (len + rows'.length) * te.size ≤ arr.size := Nat.le_trans (Nat.mul_le_mul_right _ (by omega)) hs2
      rw [Nat.add_mul] at hroom2
      have hcell : ∀ j, j < vals.length → (w.cell? ⟨b, 0 * te.size + len * te.size + j, none⟩).isSome = true := fun j hj => by
        have : len * te.size + j < arr.size := by omega
        simp only [World.cell?, hbk]
        simpa using this
      have hfro : ∀ j, j < vals.length → w.frozen? ⟨b, 0 * te.size + len * te.size + j, none⟩ = false := fun j hj => by simp [World.frozen?, hbk]
      have hrun := run_append_room_src (P := P) w t t2 o.type e i u1 q3 b (0 * te.size) len cap (a.eval y) rows'.length vals (by rw [q4]; exact hsrc) hroom (by rw [q4]; exact hcell) (by rw [q4]; exact hfro)
      have hset : w.setCells b (0 * te.size + len * i.size) vals = w.setRow b (setN arr.toList (len * te.size) vals).toArray := by
        have e1 := run_storeCells_cells (P := P) b (0 * te.size + len * te.size) vals 0 w (by simpa using hcell) (by simpa using hfro) hsrc.one
        have e2 := run_storeCells_at (P := P) b (0 * te.size + len * te.size) _ vals 0 arr w hbk (by omega) hsrc.one
        rw [e1] at e2
        have e3 := Result.ok.inj e2
        rw [q4]
        simpa [setN] using e3.2
      rw [hset] at hrun
      rw [← hax] at hrun
      have hrow2 : RowV F w te.size (old.take len ++ rows') (setN arr.toList (len * te.size) vals) := by
        have := (g1.append (by rw [g2, g3]) hrow).append (by simp [g2, hvl, Nat.add_mul, Nat.min_eq_left hlen]) (RowV.nil (F := F) (w := w) (sz := te.size) (vals := arr.toList.drop (len * te.size + vals.length)) (fun v hv => hold.one v (List.mem_of_mem_drop hv)))
        rw [List.append_nil] at this
        exact this
      have hE1 := eff_write hS (.gput (.row te.size (old.take len ++ rows')) hid) (by simp) hm hbk (new := (setN arr.toList (len * te.size) vals).toArray) (by simp only [List.size_toArray]; rw [setN_len (by simp; omega)]; simp) (fun w' hX hnew => RB.of_row hnew (by simpa using hrow2.mono (fun _ h => h) (fun b hb => hX.block b (hS.FU b hb))))
      have hput : sfind (sput s id (.row te.size (old.take len ++ rows'))) id = some (.row te.size (old.take len ++ rows')) := sfind_sput hid
      have hE2 := eff_move (n := n) hE1.st hput (by rw [sfind_sput_ne (sfind_ne hid hn)]; exact hn) hm (by simp)
      rw [sput_sput] at hE2
      refine wp_value (run_append_call ho a hrun) ⟨_, L, _, _, _, _, _, hK cap hroom, rfl, (hE1.trans hE2).tell ?_⟩
      have := RV.slc (M := M.putG n b) (F := F) (w := w.setRow b (setN arr.toList (len * te.size) vals).toArray) (.g n) te.size 0 (len + rows'.length) cap b (by simp [Mp.at_, Mp.putG]) hroom ⟨tt, arr.size, by
        rw [shape_setRow hbk (by simp only [List.size_toArray]; rw [setN_len (by simp; omega)]; simp)]
        simp [World.shape?, hbk], hs2⟩
      exact this
    · have hfit := nextcap_le (len + rows'.length) cap (by omega)
      have hfit2 := Nat.mul_le_mul_right te.bytes hfit
      have hgrow := run_append_grow_src (P := P) w t t2 o.type e i z u1 q3 q6 (some ⟨b, 0 * te.size, none⟩) len cap (arr.toList.take (len * te.size)) (run_firstCells_some _ _ _ _ _ _ _ (by rw [q4]; exact g2) (fun j v h => by
        rw [add_plain]
        rw [List.getElem?_take] at h
        split at h <;> try cases h
        simp only [World.cell?, World.drew, hbk]
        simpa using h)) (a.eval y) rows'.length vals (by rw [q4]; exact hsrc) (by omega) (by omega) (by rw [q5]; omega)
      rw [← hax] at hgrow
      have hge := grownCap_ge w (len + rows'.length) cap e
      have hE0 := eff_kill hS hid
      have hn2 : sfind (sput s id .dead) n = none := by rw [sfind_sput_ne (sfind_ne hid hn)]; exact hn
      have hE := eff_grown (n := n) (e := e) (C := grownCap w (len + rows'.length) cap e) hE0.st q7 q8 g1 (by rw [g2, g3]) hrow hvl hn2 (by rw [g3]; exact hge)
      rw [g3] at hE
      exact wp_value (run_append_call ho a hgrow) ⟨_, L, _, _, _, _, _, hK (grownCap w (len + rows'.length) cap e) hge, rfl, hE0.trans hE⟩

/-! ### Other writes into rows -/
theorem eff_rows {sz : Nat} {id b p : Nat} {rows new : List (List DV)} {nv : List Value} (hS : St M F U L s w) (hid : sfind s id = some (.row sz rows)) (hm : M.g id = some b) (hp : p ≤ rows.length)
    (hnew : RowV F w sz new nv) (hnl : nv.length = new.length * sz) {arr : Array Value} {tt : TypeId} (hbk : w.heap[b]? = some (.cells arr tt (0, 0))) (hfit : p * sz + nv.length ≤ arr.size) (hrow : RowV F w sz rows arr.toList) :
    Eff M F U s w L (sput s id (.row sz (splice rows p new))) .undef Go.undef M F U (w.setRow b (setN arr.toList (p * sz) nv).toArray) := by
  have hr2 := hrow.splice hnew hnl hp
  have hE := eff_write hS (.gput (.row sz (splice rows p new)) hid) (by simp) hm hbk (new := (setN arr.toList (p * sz) nv).toArray) (by simp only [List.size_toArray]; rw [setN_len (by simpa using hfit)]; simp) (fun w' hX hnw => RB.of_row hnw (by simpa using hr2.mono (fun _ h => h) (fun b hb => hX.block b (hS.FU b hb))))
  exact hE.tell (.undef _)
theorem run_cells_row {b o : Nat} {arr : Array Value} {tt : TypeId} (hbk : w.heap[b]? = some (.cells arr tt (0, 0))) {vs : List Value} (hfit : o + vs.length ≤ arr.size) (h1 : ∀ v ∈ vs, v.oneCell' = true) :
    (storeCells ⟨b, o, none⟩ vs 0).run P w = .ok () (w.setRow b (setN arr.toList o vs).toArray) := by
  have := run_storeCells_at (P := P) b o tt vs 0 arr w hbk (by omega) h1
  simpa [setN] using this

/-- Copy. -/
theorem ej_copy {t t2 e e2 : TypeId} {ti t2i te : TI} (hT : TabOK P T) (ht : T t = some ti) (hu : ti.u = .slice e) (hte : T e = some te) (_ht2 : T t2 = some t2i) (_hu2 : t2i.u = .slice e2) (_hsz : 0 < te.size)
    {x y : Operand} {id off len cap l2 : Nat} {old rows : List (List DV)} {K : AV → List AB → List (Nat × AB) → Prop} (ho : o.op = .call { callee := .builtin .copy, args := #[x, y], argTypes := #[t, t2] })
    (hx1 : rh x = .slc (.g id) te.size off len cap) (hid : sfind s id = some (.row te.size old)) (hoff : off ≤ old.length) (hy : srcN s te.size len (rh y) fun a q => a = l2 ∧ q = rows)
    (hK : K (.d (.int .i64 ((min l2 len : Nat) : Int))) L (sput s id (.row te.size (splice old off rows)))) : EJ P G o rh L s K := by
  intro M F U w a hS hG hx
  have h1 := hx x (by simp [ho, Op.operands, Call.operands])
  have h2 := hx y (by simp [ho, Op.operands, Call.operands])
  obtain ⟨u1, _⟩ := hT t ti ht
  rw [hu] at u1
  obtain ⟨i, z, q3, q4, q5, q6, q7, q8⟩ := hT.zeros hte
  obtain ⟨l2', rows', A, c, vals, ⟨rfl, rfl⟩, hay, hrl, hvl, hrow, hcell⟩ := srcN_get hS h2 hy
  have hfc : (Builtin.firstCells te.size (min l2' len) (a.eval y)).run P w = .ok vals.toArray w := by
    rw [hay]
    cases A with
    | some ad => exact run_firstCells_some (P := P) w te.size _ ad _ _ _ (by rw [hvl, hrl]) (fun j v hv => by
        obtain ⟨a', e', q⟩ := hcell j v hv
        cases e'
        exact q)
    | none =>
      have : vals = [] := by
        cases vals with
        | nil => rfl
        | cons v r => obtain ⟨a', e', q⟩ := hcell 0 v rfl; cases e'
      subst this
      simpa using run_firstCells_none (P := P) w te.size (min l2' len) l2' c
  have hlo : ∀ w' : World, (Builtin.lenOf (a.eval y)).run P w' = .ok l2' w' := fun w' => by rw [hay]; rfl
  rw [hx1] at h1
  generalize hax : a.eval x = u at h1
  cases h1 with
  | slc0 _ _ _ B =>
    have hr0 : rows' = [] := List.length_eq_zero_iff.1 (by rw [hrl]; simp)
    subst hr0
    have hv0 : vals = [] := List.length_eq_zero_iff.1 (by rw [hvl]; simp)
    subst hv0
    have hsp : splice old off [] = old := by simp [splice]
    rw [hsp, sput_same hid] at hK
    have hrun : (execOp a.eval o).run P w = .ok (.value (.int .i64 ((min l2' 0 : Nat) : Int))) w := by
      simp only [execOp, ho, resolve, invoke, builtin, Sem.run_bind, Sem.run_pure, Result.andThen_ok, List.map_toArray, List.map_cons, List.map_nil, hax]
      have hfc2 : (Builtin.firstCells te.size 0 (a.eval y)).run P w = .ok #[] w := by simpa using hfc
      cases B <;> simp [Builtin.copy_, run_underlying u1, sizeOf, typeInfo, q3, q4, hlo, hfc2, goInt, storeCells]
    exact wp_value hrun ⟨_, L, _, _, _, _, _, hK, rfl, (Eff.same hS).tell (.d (.int _ _))⟩
  | slc _ _ _ _ _ b hm hc hs =>
    obtain ⟨arr, tt, hbk, hold⟩ := (hS.rb (.g id) _ b (sfind_mem hid) hm).row_of
    obtain ⟨tt2, nn, hs1, hs2⟩ := hs
    simp only [World.shape?, hbk, Option.some.injEq, Prod.mk.injEq] at hs1
    obtain ⟨rfl, rfl⟩ := hs1
    have hfit : off * te.size + vals.length ≤ arr.size := by
      rw [hvl, hrl, ← Nat.add_mul]
      exact Nat.le_trans (Nat.mul_le_mul_right _ (by omega)) hs2
    have hst := run_cells_row (P := P) hbk hfit hrow.one
    have hE := eff_rows hS hid hm hoff hrow hvl hbk hfit hold
    have hrun : (execOp a.eval o).run P w = .ok (.value (.int .i64 ((min l2' len : Nat) : Int))) (w.setRow b (setN arr.toList (off * te.size) vals).toArray) := by
      simp only [execOp, ho, resolve, invoke, builtin, Sem.run_bind, Sem.run_pure, Result.andThen_ok, List.map_toArray, List.map_cons, List.map_nil, hax]
      have hfc2 : (Builtin.firstCells te.size (l2'.min len) (a.eval y)).run P w = .ok vals.toArray w := hfc
      simp [Builtin.copy_, run_underlying u1, sizeOf, typeInfo, q3, q4, hlo, hfc2, hst, goInt]
    exact wp_value hrun ⟨_, L, _, _, _, _, _, hK, rfl, hE.tell (.d (.int _ _))⟩
/-- Clear, of rows of our own. -/
theorem ej_clear {t e : TypeId} {ti te : TI} (hT : TabOK P T) (ht : T t = some ti) (hu : ti.u = .slice e) (hte : T e = some te)
    {x : Operand} {id off len cap : Nat} {old : List (List DV)} {K : AV → List AB → List (Nat × AB) → Prop} (ho : o.op = .call { callee := .builtin .clear, args := #[x], argTypes := #[t] })
    (hx1 : rh x = .slc (.g id) te.size off len cap) (hid : sfind s id = some (.row te.size old)) (hoff : off ≤ old.length)
    (hK : K (.tup []) L (sput s id (.row te.size (splice old off (List.replicate len te.zero))))) : EJ P G o rh L s K := by
  intro M F U w a hS hG hx
  have h1 := hx x (by simp [ho, Op.operands, Call.operands])
  obtain ⟨u1, _⟩ := hT t ti ht
  rw [hu] at u1
  obtain ⟨i, z, q3, q4, q5, q6, q7, q8, q9⟩ := hT.zeroRows hte
  rw [hx1] at h1
  generalize hax : a.eval x = u at h1
  cases h1 with
  | slc0 _ _ _ B =>
    have hsp : splice old off (List.replicate 0 te.zero) = old := by simp [splice]
    rw [hsp, sput_same hid] at hK
    have hrun : (execOp a.eval o).run P w = .ok (.value (.tuple #[])) w := by
      simp only [execOp, ho, resolve, invoke, builtin, Sem.run_bind, Sem.run_pure, Result.andThen_ok, List.map_toArray, List.map_cons, List.map_nil, hax]
      cases B <;> simp [Builtin.clear_, run_underlying u1]
    exact wp_value hrun ⟨_, L, _, _, _, _, _, hK, rfl, (Eff.same hS).tell (.tup [] [] rfl (fun j x v hx => by simp at hx))⟩
  | slc _ _ _ _ _ b hm hc hs =>
    obtain ⟨arr, tt, hbk, hold⟩ := (hS.rb (.g id) _ b (sfind_mem hid) hm).row_of
    obtain ⟨tt2, nn, hs1, hs2⟩ := hs
    simp only [World.shape?, hbk, Option.some.injEq, Prod.mk.injEq] at hs1
    obtain ⟨rfl, rfl⟩ := hs1
    have hzr := q9 F w len len (Nat.le_refl _)
    have hzl : (Builtin.zeroCells z.cells len).toList.length = len * te.size := by simp [zeroCells_size, q7]
    have hfit : off * te.size + (Builtin.zeroCells z.cells len).toList.length ≤ arr.size := by
      rw [hzl, ← Nat.add_mul]
      exact Nat.le_trans (Nat.mul_le_mul_right _ (by omega)) hs2
    have hst := run_cells_row (P := P) hbk hfit hzr.one
    have hE := eff_rows hS hid hm hoff hzr (by simpa using hzl) hbk hfit hold
    by_cases hl0 : len = 0
    · subst hl0
      have hid2 : setN arr.toList (off * te.size) (Builtin.zeroCells z.cells 0).toList = arr.toList := by
        have : (Builtin.zeroCells z.cells 0).toList = [] := List.length_eq_zero_iff.1 (by simpa using hzl)
        simp [this, setN]
      rw [hid2, setRow_self w b _ tt (0, 0) (by simpa using hbk)] at hE
      have hrun : (execOp a.eval o).run P w = .ok (.value (.tuple #[])) w := by
        simp only [execOp, ho, resolve, invoke, builtin, Sem.run_bind, Sem.run_pure, Result.andThen_ok, List.map_toArray, List.map_cons, List.map_nil, hax]
        simp [Builtin.clear_, run_underlying u1]
      exact wp_value hrun ⟨_, L, _, _, _, _, _, hK, rfl, hE.tell (.tup [] [] rfl (fun j x v hx => by simp at hx))⟩
    · have hrun : (execOp a.eval o).run P w = .ok (.value (.tuple #[])) (w.setRow b (setN arr.toList (off * te.size) (Builtin.zeroCells z.cells len).toList).toArray) := by
        simp only [execOp, ho, resolve, invoke, builtin, Sem.run_bind, Sem.run_pure, Result.andThen_ok, List.map_toArray, List.map_cons, List.map_nil, hax]
        cases len with
        | zero => exact absurd rfl hl0
        | succ len => simp [Builtin.clear_, run_underlying u1, zeroValue, typeInfo, q3, q6, hst]
      exact wp_value hrun ⟨_, L, _, _, _, _, _, hK, rfl, hE.tell (.tup [] [] rfl (fun j x v hx => by simp at hx))⟩

/-- A store into an element of rows of our own. -/
theorem ej_store_el {t : TypeId} {ti : TI} (hT : TabOK P T) (ht : T t = some ti) {x y : Operand} {id sz i j : Nat} {rows : List (List DV)} {row xs : List DV} {K : AV → List AB → List (Nat × AB) → Prop} (ho : o.op = .store t x y)
    (hx1 : rh x = .el (.g id) sz i j) (hid : sfind s id = some (.row sz rows)) (hrow : rows[i]? = some row) (hb : boxable (rh y) = true) (hxs : undD (rh y).cells = some xs) (hsz : xs.length = ti.size) (hin : j + ti.size ≤ sz)
    (hK : K .undef L (sput s id (.row sz (rows.set i (setN row j xs))))) : EJ P G o rh L s K := by
  intro M F U w a hS hG hx
  have h1 := hx x (by simp [ho, Op.operands])
  have h2 := hx y (by simp [ho, Op.operands])
  rw [hx1] at h1
  have hc := h2.cells (fun vs e => by rw [e] at hb; simp [boxable] at hb) (fun e => by rw [e] at hb; simp [boxable] at hb)
  have hcs := undD_map hxs
  rw [hcs] at hc
  generalize he : a.eval x = u at h1
  cases h1 with
  | el _ _ _ _ b hm =>
    obtain ⟨arr, tt, hbk, hold⟩ := (hS.rb (.g id) _ b (sfind_mem hid) hm).row_of
    have hil := (List.getElem?_eq_some_iff.1 hrow).1
    have hrl := hold.len i row hrow
    have hle := hold.le
    have hfit : i * sz + j + ti.size ≤ arr.size := by
      have h3 : (i + 1) * sz ≤ rows.length * sz := Nat.mul_le_mul_right _ hil
      rw [Nat.add_mul, Nat.one_mul] at h3
      simp at hle
      omega
    have hrun := run_store_cells hT ht hbk (v := a.eval y) (off := i * sz + j) (by rw [hc.1]; simpa using hsz) hfit (fun k u hu => by
      have hk : k < (xs.map AV.d).length := by have := (Array.getElem?_eq_some_iff.1 hu).1; omega
      exact (hc.2 k _ u (List.getElem?_eq_getElem hk) hu).1)
    have hvl : (a.eval y).cells.toList.length = ti.size := by simp [hc.1, hsz]
    have hr2 : RowV F w sz (rows.set i (setN row j xs)) (setN arr.toList (i * sz + j) (a.eval y).cells.toList) := by
      have hxl : (setN row j xs).length = sz := by rw [setN_len (by omega)]; exact hrl
      refine ⟨?_, fun k r hk => ?_, fun v hv => ?_, fun k r l x v hk hl hv => ?_⟩
      · rw [setN_len (by simp [hvl]; omega)]; simpa using hle
      · rw [List.getElem?_set] at hk
        split at hk
        · rename_i e
          subst e
          first
            | (rw [if_pos hil] at hk; cases hk; exact hxl)
            | (cases hk; exact hxl)
        · exact hold.len k r hk
      · unfold setN at hv
        simp only [List.mem_append] at hv
        rcases hv with (hv | hv) | hv
        · exact hold.one v (List.mem_of_mem_take hv)
        · obtain ⟨k, hk⟩ := List.mem_iff_getElem?.1 hv
          have hkl : k < (xs.map AV.d).length := by have := (List.getElem?_eq_some_iff.1 hk).1; simp [hvl] at this; simp [hsz]; exact this
          exact (hc.2 k _ v (List.getElem?_eq_getElem hkl) (by simpa using hk)).1
        · exact hold.one v (List.mem_of_mem_drop hv)
      · rw [setN_get (by simp [hvl]; omega)] at hv
        simp only [hvl] at hv
        rw [List.getElem?_set] at hk
        by_cases hki : i = k
        · subst hki
          rw [if_pos rfl] at hk
          first
            | (rw [if_pos hil] at hk; cases hk)
            | cases hk
          rw [setN_get (by omega)] at hl
          have hlsz : l < sz := by
            by_cases hh : j ≤ l ∧ l < j + xs.length
            · omega
            · rw [if_neg hh] at hl
              have := (List.getElem?_eq_some_iff.1 hl).1
              omega
          by_cases hh : j ≤ l ∧ l < j + xs.length
          · rw [if_pos hh] at hl
            rw [if_pos (by omega)] at hv
            have e1 : i * sz + l - (i * sz + j) = l - j := by omega
            rw [e1] at hv
            have := (hc.2 (l - j) (.d x) v (by rw [List.getElem?_map, hl]; rfl) (by simpa using hv)).2
            cases this with | d h => exact h
          · rw [if_neg hh] at hl
            rw [if_neg (by omega)] at hv
            exact hold.rd i row l x v hrow hl hv
        · rw [if_neg hki] at hk
          have hkl := (List.getElem?_eq_some_iff.1 hk).1
          have hll : l < sz := by have := (List.getElem?_eq_some_iff.1 hl).1; have := hold.len k r hk; omega
          have hout : ¬ (i * sz + j ≤ k * sz + l ∧ k * sz + l < i * sz + j + ti.size) := by
            rcases Nat.lt_or_gt_of_ne hki with hlt | hlt
            · have : (i + 1) * sz ≤ k * sz := Nat.mul_le_mul_right _ hlt
              rw [Nat.add_mul, Nat.one_mul] at this
              omega
            · have : (k + 1) * sz ≤ i * sz := Nat.mul_le_mul_right _ hlt
              rw [Nat.add_mul, Nat.one_mul] at this
              omega
          rw [if_neg hout] at hv
          exact hold.rd k r l x v hk hl hv
    have hE := eff_write hS (.gput (.row sz (rows.set i (setN row j xs))) hid) (by simp) hm hbk (new := (setN arr.toList (i * sz + j) (a.eval y).cells.toList).toArray) (by simp only [List.size_toArray]; rw [setN_len (by simp [hvl]; omega)]; simp) (fun w' hX hnw => RB.of_row hnw (by simpa using hr2.mono (fun _ h => h) (fun b hb => hX.block b (hS.FU b hb))))
    refine wp_skip' (w' := w.setRow b (setN arr.toList (i * sz + j) (a.eval y).cells.toList).toArray) ?_ ⟨.undef, L, _, Go.undef, M, F, U, hK, rfl, hE.tell (.undef _)⟩
    simp only [execOp, ho, he, Sem.run_bind, hrun, Result.andThen_ok, Sem.run_pure]

/-- Memory made for rows. -/
theorem ej_makeSlice {t e : TypeId} {ti te : TI} (hT : TabOK P T) (ht : T t = some ti) (hu : ti.u = .slice e) (hte : T e = some te) {x y : Operand} {n len cap : Nat} {k1 k2 : IntKind} {K : AV → List AB → List (Nat × AB) → Prop} (ho : o.op = .makeSlice t x y)
    (hx1 : rh x = .d (.int k1 len)) (hy1 : rh y = .d (.int k2 cap)) (hlc : len ≤ cap) (hbig : cap * te.bytes ≤ 281474976710656) (hcap : cap ≤ 4611686018427387904) (hn : sfind s n = none)
    (hK : K (.slc (.g n) te.size 0 len cap) L (s ++ [(n, .row te.size (List.replicate len te.zero))])) : EJ P G o rh L s K := by
  intro M F U w a hS hG hx
  have h1 := hx x (by simp [ho, Op.operands])
  have h2 := hx y (by simp [ho, Op.operands])
  rw [hx1] at h1
  rw [hy1] at h2
  obtain ⟨u1, _⟩ := hT t ti ht
  rw [hu] at u1
  obtain ⟨i, z, q3, q4, q5, q6, q7, q8, q9⟩ := hT.zeroRows hte
  have hrow := q9 F w cap len hlc
  have hE := eff_alloc (n := n) (ab := .row te.size (List.replicate len te.zero)) (v := .undef) (val := Go.undef) hS (.cells (Builtin.zeroCells z.cells cap) e) hn (fun w' M' _ hX hnew => RB.of_row hnew (hrow.mono (fun _ h => h) (fun b hb => hX.block b (hS.Ult b (hS.FU b hb))))) (fun w' M' _ hm hX => .undef _)
  have hrv := RV.slc (M := M.putG n w.heap.size) (F := F) (w := w.alloc (.cells (Builtin.zeroCells z.cells cap) e)) (.g n) te.size 0 len cap w.heap.size (by simp [Mp.at_, Mp.putG]) hlc ⟨e, (Builtin.zeroCells z.cells cap).size, by
    simp only [World.shape?, heap_alloc_new], by simp [zeroCells_size, q7]⟩
  have hrun : (execOp a.eval o).run P w = .ok (.value (.slice (some ⟨w.heap.size, 0 * te.size, none⟩) len cap)) (w.alloc (.cells (Builtin.zeroCells z.cells cap) e)) := by
    have e1 := h1.int_inv
    have e2 := h2.int_inv
    have hb' : (i.bytes : Int) * (cap : Int) ≤ 281474976710656 := by
      rw [q5]
      have h : ((te.bytes * cap : Nat) : Int) ≤ 281474976710656 := by rw [Nat.mul_comm]; omega
      rwa [Int.natCast_mul] at h
    have hr := run_make (P := P) w t e i z u1 q3 q6 k1 k2 len cap (by omega) (by omega) hb' (by omega)
    have hmc : madeCells z.cells (cap * i.size) = Builtin.zeroCells z.cells cap := by
      unfold madeCells Builtin.zeroCells
      rw [q4, q7]
    simp only [Int.toNat_natCast] at hr
    rw [hmc] at hr
    simp only [execOp, ho, e1, e2, Sem.run_bind, hr, Result.andThen_ok, Sem.run_pure, Nat.zero_mul]
  exact wp_value hrun ⟨_, L, _, _, _, _, _, hK, rfl, hE.tell hrv⟩

/-- A slice of one byte, one's own. -/
theorem ej_lit1 {t e : TypeId} {ti te : TI} (hT : TabOK P T) (ht : T t = some ti) (hu : ti.u = .slice e) (hte : T e = some te) {parts : Array (Nat × Operand)} {n : Nat} {x : Int} {K : AV → List AB → List (Nat × AB) → Prop} (ho : o.op = .buildSlice t 1 parts)
    (hp : parts.toList = [(0, .const (.int .u8 x))]) (hsz : te.size = 1) (hn : sfind s n = none)
    (hK : K (.slc (.g n) 1 0 1 1) L (s ++ [(n, .row 1 [[.int .u8 x]])])) : EJ P G o rh L s K := by
  intro M F U w a hS hG hx
  have hcell : ∀ p ∈ parts.toList, (a.eval p.2).cells.size = te.size := by
    intro p hpm
    rw [hp] at hpm
    simp only [List.mem_singleton] at hpm
    subst hpm
    rw [hsz]
    rfl
  have hrun := run_lit hT ht hu hte (len := 1) (parts := parts) (by rw [hp]; rfl) (by rw [hp]; rfl) (by rw [hsz]; decide) hcell w
  have hvals : ((parts.toList.map fun p => a.eval p.2).flatMap fun v => v.cells.toList) = [Value.int .u8 x] := by
    rw [hp]; rfl
  rw [hvals] at hrun
  have hrow : RowV F w 1 [[DV.int .u8 x]] [Value.int .u8 x] := by
    refine ⟨by simp, fun i r h => ?_, fun v hv => ?_, fun i r j d v h1 h2 h3 => ?_⟩
    · cases i with
      | zero => simp at h; subst h; rfl
      | succ i => simp at h
    · simp only [List.mem_singleton] at hv
      subst hv
      rfl
    · cases i with
      | succ i => simp at h1
      | zero =>
        simp at h1
        subst h1
        cases j with
        | succ j => simp at h2
        | zero =>
          simp at h2 h3
          subst h2
          subst h3
          exact .int _ _
  have hE := eff_alloc (n := n) (ab := .row 1 [[.int .u8 x]]) (v := .undef) (val := Go.undef) hS (.cells [Value.int .u8 x].toArray e) hn (fun w' M' _ hX hnew => RB.of_row hnew (by simpa using hrow.mono (fun _ h => h) (fun b hb => hX.block b (hS.Ult b (hS.FU b hb))))) (fun w' M' _ hm hX => .undef _)
  have hrv := RV.slc (M := M.putG n w.heap.size) (F := F) (w := w.alloc (.cells [Value.int .u8 x].toArray e)) (.g n) 1 0 1 1 w.heap.size (by simp [Mp.at_, Mp.putG]) (Nat.le_refl _) ⟨e, 1, by
    simp only [World.shape?, heap_alloc_new]; rfl, by simp⟩
  refine wp_value (val := .slice (some ⟨w.heap.size, 0 * 1, none⟩) 1 1) (w' := w.alloc (.cells [Value.int .u8 x].toArray e)) ?_ ⟨_, L, _, _, _, _, _, hK, rfl, hE.tell hrv⟩
  simp only [execOp, ho, Sem.run_bind]
  rw [hrun]
  rfl

theorem flat_len {sz : Nat} : ∀ (vals : List Value), (∀ v ∈ vals, v.cells.size = sz) → (vals.flatMap fun v => v.cells.toList).length = vals.length * sz
  | [], _ => by simp
  | u :: us, h => by
    rw [List.flatMap_cons, List.length_append, flat_len us (fun v hv => h v (List.mem_cons_of_mem _ hv)), Array.length_toList, h u (List.mem_cons_self ..), List.length_cons, Nat.add_mul]
    omega
/-- A slice literal of data, one's own. -/
theorem ej_lit {t e : TypeId} {ti te : TI} (hT : TabOK P T) (ht : T t = some ti) (hu : ti.u = .slice e) (hte : T e = some te) {len : Nat} {parts : Array (Nat × Operand)} {n : Nat} {K : AV → List AB → List (Nat × AB) → Prop} (ho : o.op = .buildSlice t len parts)
    (hp : parts.toList.length = len) (hi : idxs 0 parts.toList = true) (hsz : 0 < te.size) (hbig : len * te.size ≤ 16777216) {rows : List (List DV)} (hd : dataRows (parts.toList.map fun p => rh p.2) = some rows) (hl : allLen te.size rows = true) (hn : sfind s n = none)
    (hK : K (.slc (.g n) te.size 0 len len) L (s ++ [(n, .row te.size rows)])) : EJ P G o rh L s K := by
  intro M F U w a hS hG hx
  obtain ⟨c1, c2, c3⟩ := lit_cells (M := M) (F := F) (w := w) (a := a) hd hl (fun p hp => hx p.2 (by rw [ho]; simp only [Op.operands]; exact List.mem_map.2 ⟨p, hp, rfl⟩))
  have hrun := run_lit hT ht hu hte hp hi hbig c1 w
  have hfl : ((parts.toList.map fun p => a.eval p.2).flatMap fun v => v.cells.toList).length = len * te.size := by
    rw [flat_len (sz := te.size) _ (fun v hv => by obtain ⟨p, hp, rfl⟩ := List.mem_map.1 hv; exact c1 p hp), List.length_map, hp]
  generalize hV : ((parts.toList.map fun p => a.eval p.2).flatMap fun v => v.cells.toList) = V at hrun hfl c3
  have hrow : RowV F w te.size rows V := by
    refine ⟨by rw [c2, hp, hfl]; exact Nat.le_refl _, fun i r h => allLen_get hl r (List.mem_of_getElem? h), fun v hv => ?_, fun i r j d v h1 h2 h3 => ?_⟩
    · obtain ⟨m, hm⟩ := List.mem_iff_getElem?.1 hv
      have hml := (List.getElem?_eq_some_iff.1 hm).1
      have hi2 : m / te.size < rows.length := by rw [c2, hp]; exact (Nat.div_lt_iff_lt_mul hsz).2 (by omega)
      have hj2 : m % te.size < te.size := Nat.mod_lt _ hsz
      have hr : rows[m / te.size]? = some rows[m / te.size] := List.getElem?_eq_getElem hi2
      have hjl : m % te.size < rows[m / te.size].length := by rw [allLen_get hl _ (List.getElem_mem hi2)]; exact hj2
      obtain ⟨u, hu1, hu2, _⟩ := c3 _ _ _ _ hr (List.getElem?_eq_getElem hjl)
      rw [show m / te.size * te.size + m % te.size = m by rw [Nat.mul_comm]; exact Nat.div_add_mod m te.size, hm] at hu1
      cases hu1
      exact hu2
    · obtain ⟨u, hu1, _, hu2⟩ := c3 i r j d h1 h2
      rw [h3] at hu1
      cases hu1
      exact hu2
  have hE := eff_alloc (n := n) (ab := .row te.size rows) (v := .undef) (val := Go.undef) hS (.cells V.toArray e) hn (fun w' M' _ hX hnew => RB.of_row hnew (by simpa using hrow.mono (fun _ h => h) (fun b hb => hX.block b (hS.Ult b (hS.FU b hb))))) (fun w' M' _ hm hX => .undef _)
  have hrv := RV.slc (M := M.putG n w.heap.size) (F := F) (w := w.alloc (.cells V.toArray e)) (.g n) te.size 0 len len w.heap.size (by simp [Mp.at_, Mp.putG]) (Nat.le_refl _) ⟨e, len * te.size, by
    simp only [World.shape?, heap_alloc_new]; simp [hfl], by simp⟩
  refine wp_value (val := .slice (some ⟨w.heap.size, 0 * te.size, none⟩) len len) (w' := w.alloc (.cells V.toArray e)) ?_ ⟨_, L, _, _, _, _, _, hK, rfl, hE.tell hrv⟩
  simp only [execOp, ho, Sem.run_bind]
  rw [hrun, Nat.zero_mul]
  rfl

/-- Is a slice nil? Where that is not told, either may be. -/
def nilK (x : AV) (K : Bool → Prop) : Prop := match x with
  | .d .nil => K true
  | .d (.list _ rows) => match rows with
    | [] => K true ∧ K false
    | _ :: _ => K false
  | .d .emp => K true ∧ K false
  | .slc _ _ _ _ _ => K true ∧ K false
  | _ => False
theorem both {K : Bool → Prop} (h : K true ∧ K false) (b : Bool) : K b := by
  cases b with
  | true => exact h.1
  | false => exact h.2
theorem ej_isnil {op : BinOp} {t e ty : TypeId} {ti : TI} (hT : TabOK P T) (ht : T t = some ti) (hu : ti.u = .slice e) {x : Operand} {K : AV → List AB → List (Nat × AB) → Prop} (ho : o.op = .binOp op t x (.const (.slice none 0 0)) ty) (hop : op = .eql ∨ op = .neq)
    (hK : nilK (rh x) fun b => K (.d (.bool (if op = .eql then b else !b))) L s) : EJ P G o rh L s K := by
  intro M F U w a hS hG hx
  have h1 := hx x (by simp [ho, Op.operands])
  obtain ⟨u1, _⟩ := hT t ti ht
  rw [hu] at u1
  have h3 : ∃ A m c, a.eval x = .slice A m c ∧ K (.d (.bool (if op = .eql then A.isNone else !A.isNone))) L s := by
    generalize a.eval x = u at h1
    unfold nilK at hK
    split at hK <;> try exact hK.elim
    · rename_i e1; rw [e1] at h1
      exact ⟨none, _, _, h1.nil_inv, hK⟩
    · rename_i e1; rw [e1] at h1
      split at hK
      · cases h1 with | d h1 => cases h1 with
        | empty _ A c => exact ⟨A, _, _, rfl, both (K := fun b => K (.d (.bool (if op = .eql then b else !b))) L s) hK _⟩
        | list _ _ ad c u hc hN hl hm hr => exact ⟨some ad, _, _, rfl, both (K := fun b => K (.d (.bool (if op = .eql then b else !b))) L s) hK _⟩
      · cases h1 with | d h1 => cases h1 with
        | list _ _ ad c u hc hN hl hm hr => exact ⟨some ad, _, _, rfl, hK⟩
    · rename_i e1; rw [e1] at h1
      cases h1 with | d h1 => cases h1 with | emp A => exact ⟨A, _, _, rfl, both (K := fun b => K (.d (.bool (if op = .eql then b else !b))) L s) hK _⟩
    · rename_i e1; rw [e1] at h1
      cases h1 with
      | slc _ _ _ _ _ b hm hc hs => exact ⟨_, _, _, rfl, both (K := fun b => K (.d (.bool (if op = .eql then b else !b))) L s) hK _⟩
      | slc0 _ _ _ A => exact ⟨A, _, _, rfl, both (K := fun b => K (.d (.bool (if op = .eql then b else !b))) L s) hK _⟩
  obtain ⟨A, m, c, he, hKA⟩ := h3
  have hrun : (execOp a.eval o).run P w = .ok (.value (.bool (if op = .eql then A.isNone else !A.isNone))) w := by
    have hc2 : a.eval (.const (.slice none 0 0)) = .slice none 0 0 := rfl
    have heq : (Op.equal t (.slice A m c) (.slice none 0 0)).run P w = .ok A.isNone w := by
      rw [show Op.equal t (.slice A m c) (.slice none 0 0) = Op.equalIn (9999 + 1) t (.slice A m c) (.slice none 0 0) from rfl]
      generalize 9999 = d
      cases A <;> simp [Op.equalIn, run_underlying' u1]
    have hg := run_eqGuard' (P := P) (w := w) (op := op) (t := t) (x := x) (y := .const (.slice none 0 0)) (a := .slice A m c) (b := .slice none 0 0) (fun cs e => by cases e) (fun e => by cases e)
    rcases hop with rfl | rfl
    · simp only [execOp, ho, hc2, he, Sem.run_bind, hg, Result.andThen_ok]
      rw [show binOp .eql t (.slice A m c) (.slice none 0 0) = (do pure (.bool (← Op.equal t (.slice A m c) (.slice none 0 0))) : Sem Value) from rfl, Sem.run_bind, heq]
      rfl
    · simp only [execOp, ho, hc2, he, Sem.run_bind, hg, Result.andThen_ok]
      rw [show binOp .neq t (.slice A m c) (.slice none 0 0) = (do pure (.bool (!(← Op.equal t (.slice A m c) (.slice none 0 0)))) : Sem Value) from rfl, Sem.run_bind, heq]
      rfl
  exact wp_value hrun ⟨_, L, _, _, M, F, U, hKA, rfl, (Eff.same hS).tell (.d (.bool _))⟩

/-- Room made behind rows: there is none yet. -/
theorem ej_append_zeros {t t2 e : TypeId} {ti t2i te : TI} {kn ky : IntKind} (hT : TabOK P T) (ht : T t = some ti) (hu : ti.u = .slice e) (hte : T e = some te) (ht2 : T t2 = some t2i) (hu2 : t2i.u = .int kn) (hsz : 0 < te.size)
    {x y : Operand} {n id off len cap k : Nat} {old : List (List DV)} {K : AV → List AB → List (Nat × AB) → Prop} (ho : o.op = .call { callee := .builtin .append, args := #[x, y], argTypes := #[t, t2] })
    (hx1 : rh x = .slc (.g id) te.size off len cap) (hid : sfind s id = some (.row te.size old)) (hle : off + len ≤ old.length) (hy1 : rh y = .d (.int ky k)) (hk : 0 < k) (hg : cap < len + k) (hn : sfind s n = none) (hbig : (2 * (len + k) + 1024) * te.bytes ≤ 281474976710656) (h63 : len + k ≤ 4611686018427387904)
    (hK : ∀ c, len + k ≤ c → K (.slc (.g n) te.size 0 (len + k) c) L (s ++ [(n, .row te.size ((old.drop off).take len ++ List.replicate k te.zero))])) : EJ P G o rh L s K := by
  intro M F U w a hS hG hx
  have h1 := hx x (by simp [ho, Op.operands, Call.operands])
  have h2 := hx y (by simp [ho, Op.operands, Call.operands])
  obtain ⟨u1, _⟩ := hT t ti ht
  obtain ⟨u2, _⟩ := hT t2 t2i ht2
  rw [hu] at u1
  rw [hu2] at u2
  obtain ⟨i, z, q3, q4, q5, q6, q7, q8, q9⟩ := hT.zeroRows hte
  rw [hy1] at h2
  have hy2 := h2.int_inv
  have hsk : srcK s te.size (rh x) (fun q => q = (old.drop off).take len) := by
    have hbb : (Nat.beq te.size te.size && Nat.beq te.size te.size) = true := by simp
    simp only [srcK, hx1, hid, hbb]
    exact ⟨hle, trivial⟩
  have hx0 : RV M F w (rh x) (a.eval x) := h1
  obtain ⟨rows', hyl, he⟩ := srcK_yields (sz := te.size) hS hx0 hsk
  subst he
  have hlen : ((old.drop off).take len).length = len := by simp; omega
  obtain ⟨A, c0, vals, hax, hc0, hvl, hrow, hcell⟩ := hyl
  rw [hlen] at hax hvl
  rw [hx1] at h1
  have hcap : c0 = cap := by
    rw [hax] at h1
    cases h1 with
    | slc _ _ _ _ _ b hm hc hs => rfl
    | slc0 _ _ _ A => rfl
  subst hcap
  have hfit := nextcap_le (len + k) c0 (by omega)
  have hfit2 := Nat.mul_le_mul_right te.bytes hfit
  have hkb : k * te.bytes ≤ 281474976710656 := Nat.le_trans (Nat.mul_le_mul_right _ (by omega)) hbig
  have hgrow := Lib.run_append_grow_zeros (P := P) w t t2 o.type e i z ky kn u1 u2 q3 q6 A len c0 vals (by
    cases A with
    | some ad => exact run_firstCells_some _ _ _ ad _ _ _ (by rw [q4]; exact hvl) (fun j v hv => by
        obtain ⟨a', e', q⟩ := hcell j v hv
        cases e'
        exact q)
    | none =>
      have : vals = [] := by
        cases vals with
        | nil => rfl
        | cons v r => obtain ⟨a', e', q⟩ := hcell 0 v rfl; cases e'
      subst this
      exact run_firstCells_none _ _ _ _ _) k hk (by rw [q4]; exact hsz) hg (by omega) (by rw [q5]; exact hkb) (by rw [q5]; omega)
  rw [← hax, ← hy2] at hgrow
  have hge := grownCap_ge w (len + k) c0 e
  have hzr := q9 F w k k (Nat.le_refl _)
  have hE := eff_grown (n := n) (e := e) (C := grownCap w (len + k) c0 e) hS q7 q8 hrow (by rw [hvl, hlen]) hzr (by simp [zeroCells_size, q7]) hn (by simpa [hlen] using hge)
  rw [hlen, List.length_replicate] at hE
  have harr : (vals ++ (Builtin.zeroCells z.cells k).toList).toArray ++ Builtin.zeroCells z.cells (grownCap w (len + k) c0 e - (len + k)) = vals.toArray ++ Builtin.zeroCells z.cells k ++ Builtin.zeroCells z.cells (grownCap w (len + k) c0 e - (len + k)) := by
    apply Array.ext'
    simp
  rw [harr] at hE
  exact wp_value (run_append_call ho a hgrow) ⟨_, L, _, _, _, _, _, hK (grownCap w (len + k) c0 e) hge, rfl, hE⟩

theorem run_overlaps_apart2 {P : Program} (w : World) (tS tR e : TypeId) (ht : P.underlying tS = some (.slice e)) (size : Nat) (hz : ∀ w, (Go.sizeOf e).run P w = .ok size w)
    (a b : Addr) (la ca lb cb : Nat) (hne : a.block ≠ b.block) (tA tB : TypeId) (kA kB : Nat)
    (hsa : w.shape? a.block = some (tA, kA)) (hsb : w.shape? b.block = some (tB, kB)) (hkA : kA ≠ 0)
    (hfb : w.frozen? b = false) (hfe : w.frozen? { block := b.block, off := kB } = false) :
    (Extern.SlicesOverlaps.overlaps #[tS, tS] #[tR] #[.slice (some a) la ca, .slice (some b) lb cb]).run P w = .ok (.bool false) w := by
  have hnb : (a.block != b.block) = true := by simpa using hne
  have hnb' : (a.block == b.block) = false := by simpa using hne
  change Sem.run P (α := Value) (do
    let some t := (#[tS, tS] : Array TypeId)[0]? | stuck "slices.overlaps: no parameter types"
    let .slice elem ← underlying t | stuck "slices.overlaps: slice type expected"
    let size ← sizeOf elem
    match (some a : Option Addr), (some b : Option Addr) with
    | some a, some b =>
      if la = 0 ∨ lb = 0 ∨ size = 0 then pure (Value.bool false)
      else if a.block != b.block && (← frozen a) && (← frozen b) then unsupported .addressObserved
      else do
        if a.block != b.block then do
          noView a; noView b
          if ← mayBeOne a b then return Value.bool ((← choose (.extern "sameAddr.stringBytes" 2)) == 1)
        pure (Value.bool (a.block == b.block && a.off < b.off + lb * size && b.off < a.off + la * size))
    | _, _ => pure (Value.bool false)) w = _
  by_cases h0 : la = 0 ∨ lb = 0 ∨ size = 0
  · simp [run_underlying ht, hz, h0]
  · cases kA with
    | zero => exact absurd rfl hkA
    | succ kA =>
      cases hfa : w.frozen? a <;> cases hfg : w.frozen? { block := a.block, off := kA + 1 } <;>
        simp [run_underlying ht, hz, h0, hnb, hnb', frozen, noView, viewAt, mayBeOne, stringish, shape, Sem.run, hsa, hsb, hfb, hfe, hfa, hfg]
/-- Two slices of which one is ours and the other one is data, or has nothing in it. -/
theorem ej_overlaps {f : Nat} {c : Operand} {tys : Array TypeId} {t tr e : TypeId} {ti te : TI} (hT : TabOK P T) (ht : T t = some ti) (hu : ti.u = .slice e) (hte : T e = some te)
    (hov : ∀ (x y : Value) (w : World), (callFunc f #[x, y]).run P w = ((Extern.SlicesOverlaps.overlaps #[t, t] #[tr] #[x, y]).run P w).andThen fun v w' => .ok (.value v) w')
    {x y : Operand} {id sz off len cap : Nat} {rows old : List (List DV)} {K : AV → List AB → List (Nat × AB) → Prop} (ho : o.op = .call { callee := .value c, args := #[x, y], argTypes := tys }) (hc : rh c = .fn f [])
    (hx1 : rh x = .d (.list sz rows)) (hsz : 0 < sz) (hy1 : rh y = .slc (.g id) te.size off len cap) (hid : sfind s id = some (.row te.size old)) (hK : K (.d (.bool false)) L s) : EJ P G o rh L s K := by
  intro M F U w a hS hG hx
  have h0 := hx c (by simp [ho, Op.operands, Call.operands])
  have h1 := hx x (by simp [ho, Op.operands, Call.operands])
  have h2 := hx y (by simp [ho, Op.operands, Call.operands])
  rw [hc] at h0
  rw [hx1] at h1
  rw [hy1] at h2
  obtain ⟨u1, _⟩ := hT t ti ht
  rw [hu] at u1
  obtain ⟨_, _, i, _, _, h4, h5, _⟩ := hT e te hte
  have hcall : (execOp a.eval o).run P w = (callFunc f #[a.eval x, a.eval y]).run P w := by
    generalize hfv : a.eval c = fc at h0
    cases h0 with
    | fn _ cs vs hl h =>
      have hvs : vs = [] := List.length_eq_zero_iff.1 (by simpa using hl)
      subst hvs
      simp only [execOp, ho, resolve, hfv, Deferred.ofValue, Sem.run_bind, Sem.run_pure, Result.andThen_ok, invoke]
      simp
  have hres : (Extern.SlicesOverlaps.overlaps #[t, t] #[tr] #[a.eval x, a.eval y]).run P w = .ok (.bool false) w := by
    have hzz : ∀ w : World, (Go.sizeOf e).run P w = .ok te.size w := fun w => by rw [run_sizeOf' h4, h5]
    generalize a.eval x = X at h1
    generalize a.eval y = Y at h2
    have short : ∀ (A B : Option Addr) (la ca lb cb : Nat), la = 0 ∨ lb = 0 → (Extern.SlicesOverlaps.overlaps #[t, t] #[tr] #[.slice A la ca, .slice B lb cb]).run P w = .ok (.bool false) w := by
      intro A B la ca lb cb h0
      change Sem.run P (α := Value) (do
        let some t := (#[t, t] : Array TypeId)[0]? | stuck "slices.overlaps: no parameter types"
        let .slice elem ← underlying t | stuck "slices.overlaps: slice type expected"
        let size ← sizeOf elem
        match A, B with
        | some a, some b =>
          if la = 0 ∨ lb = 0 ∨ size = 0 then pure (Value.bool false)
          else if a.block != b.block && (← frozen a) && (← frozen b) then unsupported .addressObserved
          else do
            if a.block != b.block then do
              noView a; noView b
              if ← mayBeOne a b then return Value.bool ((← choose (.extern "sameAddr.stringBytes" 2)) == 1)
            pure (Value.bool (a.block == b.block && a.off < b.off + lb * size && b.off < a.off + la * size))
        | _, _ => pure (Value.bool false)) w = _
      have h0' : la = 0 ∨ lb = 0 ∨ te.size = 0 := by rcases h0 with h | h <;> simp [h]
      cases A <;> cases B <;> simp [run_underlying u1, hzz, h0']
    cases h1 with | d h1 =>
    have hY : ∃ B lb cb, Y = .slice B lb cb ∧ (lb = 0 ∨ ∃ b oo arr tt, B = some ⟨b, oo, none⟩ ∧ w.heap[b]? = some (.cells arr tt (0, 0)) ∧ ¬ U b) := by
      cases h2 with
      | slc0 _ _ _ B => exact ⟨B, 0, 0, rfl, .inl rfl⟩
      | slc _ _ _ _ _ b hm hcc hs =>
        obtain ⟨arr, tt, hbk, _⟩ := (hS.rb (.g id) _ b (sfind_mem hid) hm).row_of
        exact ⟨_, _, _, rfl, .inr ⟨b, _, arr, tt, rfl, hbk, hS.nU (.g id) _ b (sfind_mem hid) (by simp) hm⟩⟩
    obtain ⟨B, lb, cb, rfl, hB⟩ := hY
    cases h1 with
    | empty _ A c => exact short A B 0 c lb cb (.inl rfl)
    | list _ _ ad c uu hcc hN hln hm hr =>
      rcases hB with rfl | ⟨b, oo, arr, tt, rfl, hbk, hnU⟩
      · exact short _ B _ c 0 cb (.inr rfl)
      · by_cases hr0 : rows = []
        · subst hr0; exact short _ _ _ c lb cb (.inl rfl)
        · have hpos : 0 < rows.length := List.length_pos_iff.2 hr0
          have hne : ad.block ≠ b := fun e => hnU (e ▸ hS.FU _ hN)
          have hcell := hm 0 0 hpos hsz
          have hshape : ∃ tA kA, w.shape? ad.block = some (tA, kA) ∧ kA ≠ 0 := by
            unfold World.cell? at hcell
            rw [block_of_add] at hcell
            unfold World.shape?
            split at hcell
            · rename_i cc ee ff hh
              refine ⟨ee, cc.size, rfl, fun h0 => ?_⟩
              split at hcell
              · cases hcell
              · have := (Array.getElem?_eq_some_iff.1 hcell).1; omega
            · cases hcell
          obtain ⟨tA, kA, hsa, hkA⟩ := hshape
          obtain ⟨kA, rfl⟩ : ∃ k, kA = k + 1 := ⟨kA - 1, by omega⟩
          have hsb : w.shape? b = some (tt, arr.size) := by simp [World.shape?, hbk]
          have hfb : ∀ off, w.frozen? ⟨b, off, none⟩ = false := fun off => by simp [World.frozen?, hbk]
          have hnb : (ad.block != b) = true := by simpa using hne
          have hnb' : (ad.block == b) = false := by simpa using hne
          exact run_overlaps_apart2 w t tr e u1 te.size hzz ad ⟨b, oo, none⟩ rows.length c lb cb hne tA tt (kA + 1) arr.size hsa hsb (by simp) (hfb _) (hfb _)
  refine wp_value (val := .bool false) (w' := w) ?_ ⟨_, L, s, _, M, F, U, hK, rfl, (Eff.same hS).tell (.d (.bool _))⟩
  rw [hcall, hov, hres]
  rfl
/-- 'delete' from a nil map. -/
theorem ej_delete_nil {t kt et t2 : TypeId} {ti : TI} (hT : TabOK P T) (ht : T t = some ti) (hu : ti.u = .map kt et) {nb : Bool} {c : Bool × List IntKind} (hk : keyK T kt = some (nb, c)) {x k : Operand} (ho : o.op = .call { callee := .builtin .delete, args := #[x, k], argTypes := #[t, t2] })
    (hx1 : rh x = .d (.raw (.map none))) {kx : DX} (hkx : rh k = kx.av) (hg : kgood c kx = true) {K : AV → List AB → List (Nat × AB) → Prop} (hK : K (.tup []) L s) : EJ P G o rh L s K := by
  intro M F U w a hS hG hx
  have h1 := hx x (by simp [ho, Op.operands, Call.operands])
  have h2 := hx k (by simp [ho, Op.operands, Call.operands])
  rw [hx1] at h1
  rw [hkx] at h2
  have hkv := kgood_val hg h2
  have hun := run_underlying' ((hT t ti ht).1) w
  rw [hu] at hun
  have hrv : RV M F w (.tup []) (.tuple #[]) := .tup [] [] rfl (fun j x v hx => by simp at hx)
  refine wp_value (val := .tuple #[]) (w' := w) ?_ ⟨_, L, s, _, M, F, U, hK, rfl, (Eff.same hS).tell hrv⟩
  simp only [execOp, ho, resolve, invoke, builtin, Sem.run_bind, Sem.run_pure, Result.andThen_ok, List.map_toArray, List.map_cons, List.map_nil, h1.raw_inv, hkv]
  have hrun' : (Builtin.delete_ #[t, t2] o.type #[.map none, kval kx]).run P w = .ok (.tuple #[]) w := by
    have hch := fun em => key_check (w := w) hT hk hg (em := em)
    unfold Builtin.delete_
    simp [Sem.run_bind, hun, hch, Result.andThen]
  rw [hrun']
  rfl
/-- A store into a row whose cells hold places. -/
theorem ej_store_ael {t : TypeId} {ti : TI} (hT : TabOK P T) (ht : T t = some ti) {x y : Operand} {id sz i j : Nat} {ab : AB} {rows : List (List AV)} {row : List AV} {K : AV → List AB → List (Nat × AB) → Prop} (ho : o.op = .store t x y)
    (hx1 : rh x = .el (.g id) sz i j) (hid : sfind s id = some ab) (hab : ab = .arow sz rows ∨ ∃ rs, ab = .row sz rs ∧ rows = rs.map (List.map AV.d)) (hrow : rows[i]? = some row) (hb : boxable (rh y) = true) (hcl : clL (rh y).cells = true) (hsz : (rh y).cells.length = ti.size) (hin : j + ti.size ≤ sz)
    (hK : K .undef L (sput s id (.arow sz (rows.set i (setN row j (rh y).cells))))) : EJ P G o rh L s K := by
  intro M F U w a hS hG hx
  have h1 := hx x (by simp [ho, Op.operands])
  have h2 := hx y (by simp [ho, Op.operands])
  rw [hx1] at h1
  have hc := h2.cells (fun vs e => by rw [e] at hb; simp [boxable] at hb) (fun e => by rw [e] at hb; simp [boxable] at hb)
  generalize he : a.eval x = u at h1
  cases h1 with
  | el _ _ _ _ b hm =>
    have hold : ∃ arr tt, w.heap[b]? = some (.cells arr tt (0, 0)) ∧ rows.length * sz ≤ arr.size ∧ (∀ (i : Nat) (r : List AV), rows[i]? = some r → r.length = sz) ∧
        (∀ (j : Nat) (v : Value), arr[j]? = some v → v.oneCell' = true) ∧ ∀ (i : Nat) (r : List AV) (j : Nat) (x : AV) (v : Value), rows[i]? = some r → r[j]? = some x → arr[i * sz + j]? = some v → RV (M.sub (.g id)) F w x v := by
      rcases hab with rfl | ⟨rs, rfl, rfl⟩
      · exact hS.rb (.g id) _ b (sfind_mem hid) hm
      · obtain ⟨arr, tt, q1, q2, q3, q4, q5⟩ := hS.rb (.g id) _ b (sfind_mem hid) hm
        refine ⟨arr, tt, q1, by simpa using q2, fun i r hr => ?_, q4, fun i r j x v hr hx hv => ?_⟩
        · rw [List.getElem?_map] at hr
          obtain ⟨r', hr', rfl⟩ := Option.map_eq_some_iff.1 hr
          rw [List.length_map]
          exact q3 i r' hr'
        · rw [List.getElem?_map] at hr
          obtain ⟨r', hr', rfl⟩ := Option.map_eq_some_iff.1 hr
          rw [List.getElem?_map] at hx
          obtain ⟨x', hx', rfl⟩ := Option.map_eq_some_iff.1 hx
          exact .d (q5 i r' j x' v hr' hx' hv)
    obtain ⟨arr, tt, hbk, hle, hlen, hone, hrv⟩ := hold
    have hil := (List.getElem?_eq_some_iff.1 hrow).1
    have hrl := hlen i row hrow
    have hfit : i * sz + j + ti.size ≤ arr.size := by
      have h3 : (i + 1) * sz ≤ rows.length * sz := Nat.mul_le_mul_right _ hil
      rw [Nat.add_mul, Nat.one_mul] at h3
      omega
    have hrun := run_store_cells hT ht hbk (v := a.eval y) (off := i * sz + j) (by rw [hc.1]; exact hsz) hfit (fun k u hu => by
      have hk : k < (rh y).cells.length := by have := (Array.getElem?_eq_some_iff.1 hu).1; omega
      exact (hc.2 k _ u (List.getElem?_eq_getElem hk) hu).1)
    have hvl : (a.eval y).cells.toList.length = ti.size := by simp [hc.1, hsz]
    have hdead : ab ≠ .dead := by rcases hab with rfl | ⟨rs, rfl, _⟩ <;> simp
    have hE := eff_write hS (Put.gput (L := L) (.arow sz (rows.set i (setN row j (rh y).cells))) hid) hdead hm hbk (new := (setN arr.toList (i * sz + j) (a.eval y).cells.toList).toArray) (by simp only [List.size_toArray]; rw [setN_len (by simp [hvl]; omega)]; simp) (fun w' hX hnew => by
      refine ⟨_, tt, hnew, ?_, fun k r hk => ?_, fun k v hv => ?_, fun k r l x v hk hl hv => ?_⟩
      · simp only [List.size_toArray, List.length_set]; rw [setN_len (by simp [hvl]; omega)]; simpa using hle
      · rw [List.getElem?_set] at hk
        split at hk
        · rename_i e
          subst e
          first
            | (rw [if_pos hil] at hk; cases hk; rw [setN_len (by omega)]; exact hrl)
            | (cases hk; rw [setN_len (by omega)]; exact hrl)
        · exact hlen k r hk
      · simp only [List.getElem?_toArray] at hv
        rw [setN_get (by simp [hvl]; omega)] at hv
        simp only [hvl] at hv
        split at hv
        · rename_i hh
          exact (hc.2 (k - (i * sz + j)) _ v (List.getElem?_eq_getElem (by omega)) (by simpa using hv)).1
        · exact hone k v (by simpa using hv)
      · simp only [List.getElem?_toArray] at hv
        rw [setN_get (by simp [hvl]; omega)] at hv
        simp only [hvl] at hv
        rw [List.getElem?_set] at hk
        by_cases hki : i = k
        · subst hki
          rw [if_pos rfl] at hk
          first
            | (rw [if_pos hil] at hk; cases hk)
            | cases hk
          rw [setN_get (by omega)] at hl
          by_cases hh : j ≤ l ∧ l < j + (rh y).cells.length
          · rw [if_pos hh] at hl
            rw [if_pos (by omega)] at hv
            have e1 : i * sz + l - (i * sz + j) = l - j := by omega
            rw [e1] at hv
            have := (hc.2 (l - j) x v hl (by simpa using hv)).2
            exact (this.closed (clL_at hcl hl)).mono (.refl _) (fun _ h => h) hS.FU hX
          · rw [if_neg hh] at hl
            rw [if_neg (by omega)] at hv
            exact (hrv i row l x v hrow hl (by simpa using hv)).mono (.refl _) (fun _ h => h) hS.FU hX
        · rw [if_neg hki] at hk
          have hkl := (List.getElem?_eq_some_iff.1 hk).1
          have hll : l < sz := by have := (List.getElem?_eq_some_iff.1 hl).1; have := hlen k r hk; omega
          have hout : ¬ (i * sz + j ≤ k * sz + l ∧ k * sz + l < i * sz + j + ti.size) := by
            intro hh
            rcases Nat.lt_or_ge i k with h | h
            · have h3 : (i + 1) * sz ≤ k * sz := Nat.mul_le_mul_right _ h
              rw [Nat.add_mul, Nat.one_mul] at h3
              omega
            · have h3 : (k + 1) * sz ≤ i * sz := Nat.mul_le_mul_right _ (by omega)
              rw [Nat.add_mul, Nat.one_mul] at h3
              omega
          rw [if_neg hout] at hv
          exact (hrv k r l x v hk hl (by simpa using hv)).mono (.refl _) (fun _ h => h) hS.FU hX)
    refine wp_skip' (w' := w.setRow b (setN arr.toList (i * sz + j) (a.eval y).cells.toList).toArray) ?_ ⟨.undef, L, _, Go.undef, M, F, U, hK, rfl, hE.le, hE.FF, hE.UU, hE.ext, hE.st, .undef _, hE.Fn, hE.ll, hE.lg, hE.ids⟩
    simp only [execOp, ho, he, Sem.run_bind, hrun, Result.andThen_ok, Sem.run_pure]
end
end Go.Pv
/- The telling of a region: the operations ahead of its tail, then the tail. -/
namespace Go.Pv
open Go.RowKit

def vpre (P : Program) (cx : Ctx) (env : Env) (s : List (Nat × AB)) : List Oper → Nat → List RE → List AB → (List RE → List AB → Prop) → Prop
  | [], _, re, L, K => K re L
  | o :: rest, i, re, L, K => match okop cx.nt re o with
    | true => fG (gsOf re o.guard) fun gs => vop P cx (sg re gs) (rho cx.G env re) L s o.op fun v new => fAV 100 v fun v => fApp L new fun L => fO o.dst fun d => fN (i + 1) fun i1 => vpre P cx env s rest i1 (⟨i, d, gs, v⟩ :: re) L K
    | false => False

theorem reat_app {its its2 : List It} : ∀ {i : Nat}, i ≤ its.length → reat (its ++ its2) i = reat its i
  | 0, _ => rfl
  | i + 1, h => by
    unfold reat
    rw [List.getElem?_append_left (by omega), reat_app (by omega)]
theorem Lat_app {its its2 : List It} {L0 : List AB} {i : Nat} (h : i ≤ its.length) : Lat (its ++ its2) L0 i = Lat its L0 i := by
  unfold Lat
  rw [List.take_append_of_le_length h]
theorem sg_im {re : List RE} {gs : List (Nat × Bool)} (p : Prop) (h : sg re gs p) (hg : HG re gs) : p := by
  cases gs with
  | nil => exact h
  | cons x r => exact h hg

structure Told (P : Program) (cx : Ctx) (env : Env) (s : List (Nat × AB)) (its : List It) (L0 : List AB) : Prop where
  ok : ∀ (i : Nat) (it : It), its[i]? = some it → okop cx.nt (reat its i) it.o = true
  pj : ∀ (i : Nat) (it : It), its[i]? = some it → HG (reat its i) (gsAt its i it) → PJ2 P cx.G it.o (rho cx.G env (reat its i)) (Lat its L0 i) s it.v it.new
  sum : ∀ (i : Nat) (it : It), its[i]? = some it → ∀ (b : BinOp) (t : TypeId) (x y : Operand) (ty : TypeId), it.o.op = .binOp b t x y ty → isAS b = true → Sums b (rho cx.G env (reat its i) x) (rho cx.G env (reat its i) y)
/-- Of a sum, that it is one. -/
theorem vop_sum {P : Program} {cx : Ctx} {im : Prop → Prop} {rh : Operand → AV} {L : List AB} {s : List (Nat × AB)} {b : BinOp} {t : TypeId} {x y : Operand} {ty : TypeId} {K : AV → List AB → Prop} (h : vop P cx im rh L s (.binOp b t x y ty) K) (hb : isAS b = true) : Sums b (rh x) (rh y) := by
  simp only [vop] at h
  split at h
  · rename_i v hv; exact .inl ⟨v, hv⟩
  · cases b <;> simp [isAS] at hb
    · simp only at h
      split at h <;> try exact h.elim
      rename_i p q hx hy
      exact .inr ⟨rfl, p, q, hx, hy, h.1⟩
    · exact h.elim

theorem vpre_sound {P : Program} {cx : Ctx} (hT : TabOK P cx.T) {env : Env} {s : List (Nat × AB)} {L0 : List AB} {K : List RE → List AB → Prop} : ∀ (rest : List Oper) (its : List It), Told P cx env s its L0 →
    vpre P cx env s rest its.length (reat its its.length) (Lat its L0 its.length) K →
    ∃ its2, its2.map (·.o) = rest ∧ Told P cx env s (its ++ its2) L0 ∧ K (reat (its ++ its2) (its ++ its2).length) (Lat (its ++ its2) L0 (its ++ its2).length)
  | [], its, hI, h => ⟨[], rfl, by simpa using hI, by simpa [vpre] using h⟩
  | o :: rest, its, hI, h => by
    simp only [vpre, fG_eq, fAV_eq, fApp_eq, fO_eq, fN_eq] at h
    split at h <;> try exact h.elim
    rename_i hok
    have hsm : ∀ (b : BinOp) (t : TypeId) (x y : Operand) (ty : TypeId), o.op = .binOp b t x y ty → isAS b = true → Sums b (rho cx.G env (reat its its.length) x) (rho cx.G env (reat its its.length) y) := fun b t x y ty hop hb => by rw [hop] at h; exact vop_sum h hb
    obtain ⟨v, new, hpj, h⟩ := vop_sound hT (H := HG (reat its its.length) (gsOf (reat its its.length) o.guard)) (fun p hp hg => sg_im p hp hg) h
    have hlen : (its ++ [(⟨o, v, new⟩ : It)]).length = its.length + 1 := by simp
    have hlast : (its ++ [(⟨o, v, new⟩ : It)])[its.length]? = some (⟨o, v, new⟩ : It) := by simp
    have hre : reat (its ++ [(⟨o, v, new⟩ : It)]) (its.length + 1) = ⟨its.length, o.dst, gsOf (reat its its.length) o.guard, v⟩ :: reat its its.length := by
      rw [reat, hlast]
      simp only [reat_app (its2 := [(⟨o, v, new⟩ : It)]) (Nat.le_refl its.length)]
    have hL : Lat (its ++ [(⟨o, v, new⟩ : It)]) L0 (its.length + 1) = Lat its L0 its.length ++ new := by
      rw [Lat_succ hlast, Lat_app (Nat.le_refl _)]
    have hI2 : Told P cx env s (its ++ [(⟨o, v, new⟩ : It)]) L0 := by
      refine ⟨fun i it hit => ?_, fun i it hit => ?_, fun i it hit => ?_⟩
      · rcases Nat.lt_or_ge i its.length with hi | hi
        · rw [List.getElem?_append_left hi] at hit
          rw [reat_app (by omega)]
          exact hI.ok i it hit
        · have : i = its.length := by
            have := (List.getElem?_eq_some_iff.1 hit).1
            simp at this
            omega
          subst this
          rw [hlast] at hit
          cases hit
          rw [reat_app (Nat.le_refl _)]
          exact hok
      · rcases Nat.lt_or_ge i its.length with hi | hi
        · rw [List.getElem?_append_left hi] at hit
          unfold gsAt
          rw [reat_app (by omega), Lat_app (by omega)]
          exact hI.pj i it hit
        · have : i = its.length := by
            have := (List.getElem?_eq_some_iff.1 hit).1
            simp at this
            omega
          subst this
          rw [hlast] at hit
          cases hit
          unfold gsAt
          rw [reat_app (Nat.le_refl _), Lat_app (Nat.le_refl _)]
          exact hpj
      · rcases Nat.lt_or_ge i its.length with hi | hi
        · rw [List.getElem?_append_left hi] at hit
          rw [reat_app (by omega)]
          exact hI.sum i it hit
        · have : i = its.length := by
            have := (List.getElem?_eq_some_iff.1 hit).1
            simp at this
            omega
          subst this
          rw [hlast] at hit
          cases hit
          rw [reat_app (Nat.le_refl _)]
          exact hsm
    obtain ⟨its2, h1, h2, h3⟩ := vpre_sound hT rest (its ++ [(⟨o, v, new⟩ : It)]) hI2 (by rw [hlen, hre, hL]; exact h)
    refine ⟨⟨o, v, new⟩ :: its2, by simp [h1], by simpa using h2, by simpa using h3⟩

/-- The tail's operations: one that writes, told as it stands. -/
def fFresh : Nat → Nat → List (Nat × AB) → (Nat → Prop) → Prop
  | 0, _, _, _ => False
  | f + 1, n, s, K => match sfind s n with
    | none => K n
    | some _ => fN (n + 1) fun n => fFresh f n s K
theorem fFresh_some : ∀ {f n : Nat} {s : List (Nat × AB)} {K : Nat → Prop}, fFresh f n s K → ∃ n, sfind s n = none ∧ K n
  | 0, _, _, _, h => h.elim
  | f + 1, n, s, K, h => by
    simp only [fFresh, fN_eq] at h
    split at h
    · rename_i hn; exact ⟨n, hn, h⟩
    · exact fFresh_some h
def fNew (s : List (Nat × AB)) (K : Nat → Prop) : Prop := fLen s lits 0 fun n => fFresh 1000 n s K
theorem fNew_some {s : List (Nat × AB)} {K : Nat → Prop} (h : fNew s K) : ∃ n, sfind s n = none ∧ K n := by
  unfold fNew at h
  rw [fLen_eq] at h
  exact fFresh_some h
/-! ### Whom a call is told of -/
def addK (i : Nat) (acc : List Nat) (K : List Nat → Prop) : Prop := match memB i acc with
  | true => K acc
  | false => fN i fun i => appF acc [i] K
def occR (r : Rf) (acc : List Nat) (K : List Nat → Prop) : Prop := match r with
  | .g i => addK i acc K
  | .l _ => K acc
mutual
def occK : Nat → AV → List Nat → (List Nat → Prop) → Prop
  | 0, _, acc, K => K acc
  | n + 1, x, acc, K => match x with
    | .agg cs => occsK n cs acc K
    | .tup cs => occsK n cs acc K
    | .fn _ cs => occsK n cs acc K
    | .ifc _ x => occK n x acc K
    | .ref r _ => occR r acc K
    | .slc r _ _ _ _ => occR r acc K
    | .el r _ _ _ => occR r acc K
    | .mp r => occR r acc K
    | .d _ => K acc
    | .undef => K acc
def occsK : Nat → List AV → List Nat → (List Nat → Prop) → Prop
  | 0, _, acc, K => K acc
  | n + 1, xs, acc, K => match xs with
    | [] => K acc
    | x :: r => occK n x acc fun acc => occsK n r acc K
end
def occMK : List (AV × AV) → List Nat → (List Nat → Prop) → Prop
  | [], acc, K => K acc
  | (_, x) :: r, acc, K => occK 100 x acc fun acc => occMK r acc K
def occLLK : List (List AV) → List Nat → (List Nat → Prop) → Prop
  | [], acc, K => K acc
  | x :: r, acc, K => occsK 100 x acc fun acc => occLLK r acc K
def occBK (ab : AB) (acc : List Nat) (K : List Nat → Prop) : Prop := match ab with
  | .cells cs => occsK 100 cs acc K
  | .arow _ rows => occLLK rows acc K
  | .map es => occMK es acc K
  | .row _ _ => K acc
  | .dmap _ => K acc
  | .dead => K acc
def reachK : Nat → List (Nat × AB) → Nat → List Nat → (List Nat → Prop) → Prop
  | 0, _, _, acc, K => K acc
  | n + 1, s, j, acc, K => match acc[j]? with
    | none => K acc
    | some i => match sfind s i with
      | none => K acc
      | some ab => occBK ab acc fun acc => fN (j + 1) fun j => reachK n s j acc K
theorem addK_some {i : Nat} {acc : List Nat} {K : List Nat → Prop} (h : addK i acc K) : ∃ l, K l := by
  unfold addK at h
  split at h
  · exact ⟨_, h⟩
  · rw [fN_eq, appF_eq] at h; exact ⟨_, h⟩
theorem occR_some {r : Rf} {acc : List Nat} {K : List Nat → Prop} (h : occR r acc K) : ∃ l, K l := by
  unfold occR at h
  split at h
  · exact addK_some h
  · exact ⟨_, h⟩
mutual
theorem occK_some : ∀ {n : Nat} {x : AV} {acc : List Nat} {K : List Nat → Prop}, occK n x acc K → ∃ l, K l
  | 0, _, _, _, h => by simp only [occK] at h; exact ⟨_, h⟩
  | n + 1, x, acc, K, h => by
    unfold occK at h
    split at h
    · exact occsK_some h
    · exact occsK_some h
    · exact occsK_some h
    · exact occK_some h
    · exact occR_some h
    · exact occR_some h
    · exact occR_some h
    · exact occR_some h
    · exact ⟨_, h⟩
    · exact ⟨_, h⟩
theorem occsK_some : ∀ {n : Nat} {x : List AV} {acc : List Nat} {K : List Nat → Prop}, occsK n x acc K → ∃ l, K l
  | 0, _, _, _, h => by simp only [occsK] at h; exact ⟨_, h⟩
  | n + 1, x, acc, K, h => by
    unfold occsK at h
    split at h
    · exact ⟨_, h⟩
    · obtain ⟨l, h⟩ := occK_some h
      exact occsK_some h
end
theorem occMK_some : ∀ {x : List (AV × AV)} {acc : List Nat} {K : List Nat → Prop}, occMK x acc K → ∃ l, K l
  | [], _, _, h => ⟨_, h⟩
  | (_, x) :: r, acc, K, h => by
    obtain ⟨l, h⟩ := occK_some h
    exact occMK_some h
theorem occLLK_some : ∀ {x : List (List AV)} {acc : List Nat} {K : List Nat → Prop}, occLLK x acc K → ∃ l, K l
  | [], _, _, h => ⟨_, h⟩
  | x :: r, acc, K, h => by
    obtain ⟨l, h⟩ := occsK_some h
    exact occLLK_some h
theorem occBK_some {ab : AB} {acc : List Nat} {K : List Nat → Prop} (h : occBK ab acc K) : ∃ l, K l := by
  unfold occBK at h
  split at h
  · exact occsK_some h
  · exact occLLK_some h
  · exact occMK_some h
  · exact ⟨_, h⟩
  · exact ⟨_, h⟩
  · exact ⟨_, h⟩
theorem reachK_some : ∀ {n : Nat} {s : List (Nat × AB)} {j : Nat} {acc : List Nat} {K : List Nat → Prop}, reachK n s j acc K → ∃ l, K l
  | 0, _, _, _, _, h => ⟨_, h⟩
  | n + 1, s, j, acc, K, h => by
    unfold reachK at h
    split at h
    · exact ⟨_, h⟩
    · split at h
      · exact ⟨_, h⟩
      · obtain ⟨l, h⟩ := occBK_some h
        rw [fN_eq] at h
        exact reachK_some h
/-- How many names a callee tells of, and a name that nobody has. -/
def topK : List (Nat × AB) → Nat → (Nat → Prop) → Prop
  | [], m, K => K m
  | (i, _) :: r, m, K => match Nat.ble m i with
    | true => fN (i + 1) fun m => topK r m K
    | false => topK r m K
def namesK : Nat → Nat → List Nat → (List Nat → Prop) → Prop
  | 0, _, acc, K => K acc
  | n + 1, m, acc, K => appF acc [m] fun acc => fN (m + 1) fun m => namesK n m acc K
def tauK (s : List (Nat × AB)) (ρ : List Nat) (s1 : List (Nat × AB)) (K : List Nat → Prop) : Prop :=
  fLen ρ lits 0 fun k => topK s1 k fun m => topK s 0 fun f => fN (m - k) fun d => namesK d f [] K
theorem topK_some : ∀ {s : List (Nat × AB)} {m : Nat} {K : Nat → Prop}, topK s m K → ∃ l, K l
  | [], _, _, h => ⟨_, h⟩
  | (i, _) :: r, m, K, h => by
    unfold topK at h
    split at h
    · rw [fN_eq] at h; exact topK_some h
    · exact topK_some h
theorem namesK_some : ∀ {n m : Nat} {acc : List Nat} {K : List Nat → Prop}, namesK n m acc K → ∃ l, K l
  | 0, _, _, _, h => ⟨_, h⟩
  | n + 1, m, acc, K, h => by
    unfold namesK at h
    rw [appF_eq, fN_eq] at h
    exact namesK_some h
theorem tauK_some {s : List (Nat × AB)} {ρ : List Nat} {s1 : List (Nat × AB)} {K : List Nat → Prop} (h : tauK s ρ s1 K) : ∃ l, K l := by
  unfold tauK at h
  rw [fLen_eq] at h
  obtain ⟨m, h⟩ := topK_some h
  obtain ⟨f, h⟩ := topK_some h
  rw [fN_eq] at h
  exact namesK_some h

def capok (n bytes : Nat) : Prop := (2 * n + 1024) * bytes ≤ 281474976710656 ∧ n ≤ 4611686018427387904
def veff (P : Program) (cx : Ctx) (rh : Operand → AV) (L : List AB) (s : List (Nat × AB)) (op : Op) (K : AV → List AB → List (Nat × AB) → Prop) : Prop := match op with
  | .store t x y => match cx.T t with
    | some ti => match rh x with
      | .ref (.l k) off => match L[k]? with
        | some (.cells cs) => match boxable (rh y) && Nat.beq (rh y).cells.length ti.size && Nat.ble (off + ti.size) cs.length with
          | true => K .undef (L.set k (.cells (setN cs off (rh y).cells))) s
          | false => False
        | _ => False
      | .ref (.g id) off => match sfind s id with
        | some (.cells cs) => match boxable (rh y) && Nat.beq (rh y).cells.length ti.size && clL (rh y).cells && Nat.ble (off + ti.size) cs.length with
          | true => K .undef L (sput s id (.cells (setN cs off (rh y).cells)))
          | false => False
        | _ => False
      | .el (.g id) sz i j => match sfind s id with
        | some (.row sz' rows) => match undD (rh y).cells with
          | some xs => match boxable (rh y) && Nat.beq xs.length ti.size && Nat.ble (j + ti.size) sz && Nat.beq sz' sz with
            | true => ∃ row, rows[i]? = some row ∧ K .undef L (sput s id (.row sz (rows.set i (setN row j xs))))
            | false => False
          | none => match boxable (rh y) && clL (rh y).cells && Nat.beq (rh y).cells.length ti.size && Nat.ble (j + ti.size) sz && Nat.beq sz' sz with
            | true => ∃ row, (rows.map (List.map AV.d))[i]? = some row ∧ K .undef L (sput s id (.arow sz ((rows.map (List.map AV.d)).set i (setN row j (rh y).cells))))
            | false => False
        | some (.arow sz' rows) => match boxable (rh y) && clL (rh y).cells && Nat.beq (rh y).cells.length ti.size && Nat.ble (j + ti.size) sz && Nat.beq sz' sz with
          | true => ∃ row, rows[i]? = some row ∧ K .undef L (sput s id (.arow sz (rows.set i (setN row j (rh y).cells))))
          | false => False
        | _ => False
      | _ => False
    | none => False
  | .makeSlice t x y => match velem cx.T t with
    | some te => match rh x with
      | .d (.int _ l) => match rh y with
        | .d (.int _ c) => fNew s fun n => ∃ len cap : Nat, (l = len ∧ c = cap ∧ len ≤ cap ∧ cap * te.bytes ≤ 281474976710656 ∧ cap ≤ 4611686018427387904) ∧ K (.slc (.g n) te.size 0 len cap) L (s ++ [(n, .row te.size (List.replicate len te.zero))])
        | _ => False
      | _ => False
    | none => False
  | .buildSlice t len parts => match velem cx.T t with
    | some te => match Nat.beq te.size 1 && Nat.beq len 1 with
      | true => match parts.toList with
        | [(0, .const (.int .u8 x))] => fNew s fun n => K (.slc (.g n) 1 0 1 1) L (s ++ [(n, .row 1 [[.int .u8 x]])])
        | _ => False
      | false => match dataRows (parts.toList.map fun p => rh p.2) with
        | some rows => match Nat.beq parts.toList.length len && idxs 0 parts.toList && Nat.ble (len * te.size) 16777216 && allLen te.size rows && Nat.blt 0 te.size with
          | true => fRows rows fun rows => fNew s fun n => K (.slc (.g n) te.size 0 len len) L (s ++ [(n, .row te.size rows)])
          | false => False
        | none => False
    | none => False
  | .box _ x => match boxable (rh x) && clL (rh x).cells with
    | true => fNew s fun n => K (.ref (.g n) 0) L (s ++ [(n, .cells (rh x).cells)])
    | false => False
  | .alloc t => match cx.T t with
    | some ti => fNew s fun n => K (.ref (.g n) 0) L (s ++ [(n, .cells (ti.zero.map .d))])
    | none => False
  | .makeMap _ none => fNew s fun n => K (.mp (.g n)) L (s ++ [(n, .dmap [])])
  | .binOp op t x (.const (.slice none 0 0)) _ => match velem cx.T t with
    | some _ => match op with
      | .eql => nilK (rh x) fun b => K (.d (.bool b)) L s
      | .neq => nilK (rh x) fun b => K (.d (.bool (!b))) L s
      | _ => False
    | none => False
  | .mapUpdate t x k y => match cx.T t with
    | some ti => match ti.u with
      | .map kt _ => match keyK cx.T kt with
        | some (nb, c) => match dxOf (rh k) with
          | some kx => match dxOf (rh y) with
            | some vx => match rh x with
              | .mp (.g id) => match sfind s id with
                | some (.dmap es) => keyH P cx.T kt nb ∧ ∃ es', (kgood c kx = true ∧ (∀ e ∈ es, kgood c e.1 = true) ∧ dput es kx vx es') ∧ K .undef L (sput s id (.dmap es'))
                | _ => False
              | _ => False
            | none => False
          | none => False
        | none => False
      | _ => False
    | none => False
  | .call c => match c.callee with
    | .builtin .append => match c.args.toList with
      | [x, y] => match c.argTypes.toList with
        | [t, t2] => match velem cx.T t with
          | some te => match velem cx.T t2 with
            | some _ => match te.size with
              | 0 => False
              | _ + 1 => srcK s te.size (rh y) fun rows => match rh x with
                | .d .nil => capok rows.length te.bytes ∧ match rows with
                  | [] => K (.d .nil) L s
                  | r :: rs => fNew s fun n => ∀ c, (r :: rs).length ≤ c → K (.slc (.g n) te.size 0 (r :: rs).length c) L (s ++ [(n, .row te.size (r :: rs))])
                | .d .emp => capok rows.length te.bytes ∧ match rows with
                  | [] => K (.d .emp) L s
                  | r :: rs => fNew s fun n => ∀ c, (r :: rs).length ≤ c → K (.slc (.g n) te.size 0 (r :: rs).length c) L (s ++ [(n, .row te.size (r :: rs))])
                | .slc (.g id) sz 0 len _ => match sfind s id with
                  | some (.row sz' old) => match Nat.beq sz te.size && Nat.beq sz' te.size with
                    | true => len ≤ old.length ∧ capok (len + rows.length) te.bytes ∧ fNew s fun n => ∀ c, len + rows.length ≤ c → K (.slc (.g n) te.size 0 (len + rows.length) c) L (sput s id .dead ++ [(n, .row te.size (old.take len ++ rows))])
                    | false => False
                  | _ => False
                | _ => False
            | none => match cx.T t2 with
              | some t2i => match t2i.u with
                | .int _ => match te.size with
                  | 0 => False
                  | _ + 1 => match rh x with
                    | .slc (.g id) sz off len cap => match sfind s id with
                      | some (.row sz' old) => match Nat.beq sz te.size && Nat.beq sz' te.size with
                        | true => match rh y with
                          | .d (.int _ m) => ∃ k : Nat, (m = k ∧ 0 < k ∧ cap < len + k ∧ off + len ≤ old.length ∧ capok (len + k) te.bytes) ∧ fNew s fun n => ∀ c, len + k ≤ c → K (.slc (.g n) te.size 0 (len + k) c) L (s ++ [(n, .row te.size ((old.drop off).take len ++ List.replicate k te.zero))])
                          | _ => False
                        | false => False
                      | _ => False
                    | _ => False
                | _ => False
              | none => False
          | none => False
        | _ => False
      | _ => False
    | .builtin .copy => match c.args.toList with
      | [x, y] => match c.argTypes.toList with
        | [t, t2] => match velem cx.T t with
          | some te => match velem cx.T t2 with
            | some _ => match te.size with
              | 0 => False
              | _ + 1 => match rh x with
                | .slc (.g id) sz off len _ => match sfind s id with
                  | some (.row sz' old) => match Nat.beq sz te.size && Nat.beq sz' te.size with
                    | true => off ≤ old.length ∧ srcN s te.size len (rh y) fun l2 rows => K (.d (.int .i64 ((min l2 len : Nat) : Int))) L (sput s id (.row te.size (splice old off rows)))
                    | false => False
                  | _ => False
                | _ => False
            | none => False
          | none => False
        | _ => False
      | _ => False
    | .builtin .clear => match c.args.toList with
      | [x] => match c.argTypes.toList with
        | [t] => match velem cx.T t with
          | some te => match rh x with
            | .slc (.g id) sz off len _ => match sfind s id with
              | some (.row sz' old) => match Nat.beq sz te.size && Nat.beq sz' te.size with
                | true => off ≤ old.length ∧ K (.tup []) L (sput s id (.row te.size (splice old off (List.replicate len te.zero))))
                | false => False
              | _ => False
            | _ => False
          | none => False
        | _ => False
      | _ => False
    | .builtin .delete => match c.args.toList with
      | [x, k] => match c.argTypes.toList with
        | [t, _] => match cx.T t with
          | some ti => match ti.u with
            | .map kt _ => match keyK cx.T kt with
              | some (nb, c) => match dxOf (rh k) with
                | some kx => match rh x with
                  | .mp (.g id) => match sfind s id with
                    | some (.dmap es) => keyH P cx.T kt nb ∧ ∃ es', (kgood c kx = true ∧ (∀ e ∈ es, kgood c e.1 = true) ∧ ddel es kx es') ∧ K (.tup []) L (sput s id (.dmap es'))
                    | _ => False
                  | .d (.raw (.map .none)) => kgood c kx = true ∧ K (.tup []) L s
                  | _ => False
                | none => False
              | none => False
            | _ => False
          | none => False
        | _ => False
      | _ => False
    | .value f => match rh f with
      | .fn g caps => fAVs 100 (c.args.toList.map rh ++ caps) fun args => occsK 100 args [] fun ρ0 => reachK 50 s 0 ρ0 fun ρ => match nodupB ρ with
        | true => match rnL (toF ρ) args with
          | some args1 => fAVs 100 args1 fun args1 => match selS ρ s ρ 0 with
            | some s0 => fSt s0 fun s0 => ∃ args' R, (WkL args1 args' ∧ Contract P cx.G g args' s0 R) ∧ ∀ res s1, R res s1 → tauK s ρ s1 fun τ => match nodupB (ρ ++ τ) && allNew s τ && covers s1 ρ.length with
              | true => match putS (ρ ++ τ) s1 s with
                | some s' => match res.rn (frF (ρ ++ τ)) with
                  | some res' => K res' L s'
                  | none => False
                | none => False
              | false => False
            | none => False
          | none => False
        | false => False
      | _ => False
    | _ => False
  | _ => False
/-- Literals of so many elements are told as rows of one's own, not as data. -/
def ownLens : List Nat := [4]
def isEff : Op → Bool
  | .store _ _ _ => true
  | .box _ _ => true
  | .alloc _ => true
  | .makeMap _ none => true
  | .mapUpdate _ _ _ _ => true
  | .makeSlice _ _ _ => true
  | .buildSlice _ len parts => match parts.toList with
    | [(0, .const (.int .u8 _))] => true
    | _ => memB len ownLens
  | .binOp op _ _ (.const (.slice none 0 0)) _ => match op with
    | .eql => true
    | .neq => true
    | _ => false
  | .call c => match c.callee with
    | .value _ => true
    | .builtin .delete => true
    | .builtin .append => true
    | .builtin .copy => true
    | .builtin .clear => true
    | _ => false
  | _ => false

theorem EJ.mono {P : Program} {G : Gl} {o : Oper} {rh : Operand → AV} {L : List AB} {s : List (Nat × AB)} {K K' : AV → List AB → List (Nat × AB) → Prop} (h : EJ P G o rh L s K) (hK : ∀ v L' s', K v L' s' → K' v L' s') : EJ P G o rh L s K' :=
  fun M F U w a hS hG hx => Oper.wp_mono (fun _ _ ⟨v, L', s', val, M', F', U', hk, rest⟩ => ⟨v, L', s', val, M', F', U', hK _ _ _ hk, rest⟩) (h M F U w a hS hG hx)

theorem veff_sound {P : Program} {cx : Ctx} (hT : TabOK P cx.T) {rh : Operand → AV} {L : List AB} {s : List (Nat × AB)} {o : Oper} {K : AV → List AB → List (Nat × AB) → Prop} (h : veff P cx rh L s o.op K) : EJ P cx.G o rh L s K := by
  generalize hop : o.op = op at h
  cases op with
  | store t x y =>
    simp only [veff] at h
    split at h <;> try exact h.elim
    rename_i ti ht
    split at h
    · rename_i k off hx
      split at h <;> try exact h.elim
      rename_i cs hk
      split at h <;> try exact h.elim
      rename_i hb
      simp only [Bool.and_eq_true] at hb
      exact ej_store_cells hT ht hop hx hb.1.1 (beq_t hb.1.2) (Nat.le_of_ble_eq_true hb.2) (fun id e => by cases e) (.l L s k hk) h
    · rename_i id off hx
      split at h <;> try exact h.elim
      rename_i cs hm
      split at h <;> try exact h.elim
      rename_i hb
      simp only [Bool.and_eq_true] at hb
      exact ej_store_cells hT ht hop hx hb.1.1.1 (beq_t hb.1.1.2) (Nat.le_of_ble_eq_true hb.2) (fun _ _ => hb.1.2) (.gput _ hm) h
    · rename_i id sz i j hx
      split at h <;> try exact h.elim
      · rename_i sz' rows hm
        split at h
        · rename_i xs hxs
          split at h <;> try exact h.elim
          rename_i hb
          simp only [Bool.and_eq_true] at hb
          obtain ⟨row, hr, h⟩ := h
          have := beq_t hb.2
          subst this
          exact ej_store_el hT ht hop hx hm hr hb.1.1.1 hxs (beq_t hb.1.1.2) (Nat.le_of_ble_eq_true hb.1.2) h
        · split at h <;> try exact h.elim
          rename_i hb
          simp only [Bool.and_eq_true] at hb
          obtain ⟨row, hr, h⟩ := h
          have := beq_t hb.2
          subst this
          exact ej_store_ael hT ht hop hx hm (.inr ⟨_, rfl, rfl⟩) hr hb.1.1.1.1 hb.1.1.1.2 (beq_t hb.1.1.2) (Nat.le_of_ble_eq_true hb.1.2) h
      · rename_i sz' rows hm
        split at h <;> try exact h.elim
        rename_i hb
        simp only [Bool.and_eq_true] at hb
        obtain ⟨row, hr, h⟩ := h
        have := beq_t hb.2
        subst this
        exact ej_store_ael hT ht hop hx hm (.inl rfl) hr hb.1.1.1.1 hb.1.1.1.2 (beq_t hb.1.1.2) (Nat.le_of_ble_eq_true hb.1.2) h
    · exact h.elim
  | makeSlice t x y =>
    simp only [veff] at h
    split at h <;> try exact h.elim
    rename_i te hte
    obtain ⟨ti, e, h1, h2, h3⟩ := velem_inv hte
    split at h <;> try exact h.elim
    rename_i k1 l hx
    split at h <;> try exact h.elim
    rename_i k2 c hy
    obtain ⟨n, hn, len, cap, ⟨p1, p2, q1, q2, q3⟩, h4⟩ := fNew_some h
    subst p1
    subst p2
    exact ej_makeSlice hT h1 h2 h3 hop hx hy q1 q2 q3 hn h4
  | buildSlice t len parts =>
    simp only [veff] at h
    split at h <;> try exact h.elim
    rename_i te hte
    obtain ⟨ti, e, h1, h2, h3⟩ := velem_inv hte
    split at h
    · rename_i hb
      simp only [Bool.and_eq_true] at hb
      have hlen := beq_t hb.2
      subst hlen
      split at h <;> try exact h.elim
      rename_i x hx
      obtain ⟨n, hn, h⟩ := fNew_some h
      exact ej_lit1 hT h1 h2 h3 hop hx (beq_t hb.1) hn h
    · split at h <;> try exact h.elim
      rename_i rows hrows
      split at h <;> try exact h.elim
      rename_i hb
      rw [fRows_eq] at h
      simp only [Bool.and_eq_true] at hb
      obtain ⟨⟨⟨⟨b1, b2⟩, b3⟩, b4⟩, b5⟩ := hb
      obtain ⟨n, hn, h⟩ := fNew_some h
      exact ej_lit hT h1 h2 h3 hop (beq_t b1) b2 (by have h5 := b5; simp [Nat.blt] at h5; omega) (Nat.le_of_ble_eq_true b3) hrows b4 hn h
  | box t x =>
    simp only [veff] at h
    split at h <;> try exact h.elim
    rename_i hb
    simp only [Bool.and_eq_true] at hb
    obtain ⟨n, hn, h⟩ := fNew_some h
    exact ej_box hop hb.1 hb.2 hn h
  | alloc t =>
    simp only [veff] at h
    split at h <;> try exact h.elim
    rename_i ti ht
    obtain ⟨n, hn, h⟩ := fNew_some h
    exact ej_alloc hT ht hop hn h
  | binOp op t x y ty =>
    by_cases hy : y = .const (.slice none 0 0)
    · subst hy
      simp only [veff] at h
      split at h <;> try exact h.elim
      rename_i te hte
      obtain ⟨ti, e, h1, h2, h3⟩ := velem_inv hte
      split at h <;> try exact h.elim
      · exact ej_isnil hT h1 h2 hop (.inl rfl) (by simpa using h)
      · exact ej_isnil hT h1 h2 hop (.inr rfl) (by simpa using h)
    · have : False := by
        unfold veff at h
        split at h <;> simp_all
      exact this.elim
  | makeMap t r =>
    cases r with
    | none =>
      simp only [veff] at h
      obtain ⟨n, hn, h⟩ := fNew_some h
      exact ej_makeMap hop hn h
    | some r => exact (by simp [veff] at h)
  | mapUpdate t x k y =>
    simp only [veff] at h
    split at h <;> try exact h.elim
    rename_i ti ht
    split at h <;> try exact h.elim
    rename_i kt et hu
    split at h <;> try exact h.elim
    rename_i c hk
    split at h <;> try exact h.elim
    rename_i kx hkx
    split at h <;> try exact h.elim
    rename_i vx hvx
    split at h <;> try exact h.elim
    rename_i id hx
    split at h <;> try exact h.elim
    rename_i es hm
    obtain ⟨hs, es', ⟨h1, h2, h3⟩, h⟩ := h
    exact ej_mapUpdate hT ht hu hk hs hop hx hm (dxOf_av hkx) (dxOf_av hvx) h1 h2 h3 h
  | call c =>
    simp only [veff] at h
    obtain ⟨callee, args, tys⟩ := c
    simp only at h
    split at h <;> try exact h.elim
    · split at h <;> try exact h.elim
      rename_i x y hargs
      split at h <;> try exact h.elim
      rename_i t t2 htys
      have ha := arr_toList hargs
      have hb := arr_toList htys
      subst ha
      subst hb
      split at h <;> try exact h.elim
      rename_i te hte
      obtain ⟨ti, e, h1, h2, h3⟩ := velem_inv hte
      split at h
      rotate_left
      · split at h <;> try exact h.elim
        rename_i t2i ht2
        split at h <;> try exact h.elim
        rename_i kn hu2
        split at h <;> try exact h.elim
        rename_i m hsz
        have hpos : 0 < te.size := by omega
        split at h <;> try exact h.elim
        rename_i id sz off len cap hx
        split at h <;> try exact h.elim
        rename_i sz' old hid
        split at h <;> try exact h.elim
        rename_i hb
        simp only [Bool.and_eq_true] at hb
        have e1 := beq_t hb.1
        have e2 := beq_t hb.2
        subst e1
        subst e2
        split at h <;> try exact h.elim
        rename_i ky mm hy
        obtain ⟨k, ⟨p1, p2, p3, p4, p5, p6⟩, h⟩ := h
        subst p1
        obtain ⟨n, hn, h⟩ := fNew_some h
        exact ej_append_zeros hT h1 h2 h3 ht2 hu2 hpos hop hx hid p4 hy p2 p3 hn p5 p6 h
      rename_i te2 hte2
      obtain ⟨ti2, e2, g1, g2, g3⟩ := velem_inv hte2
      split at h <;> try exact h.elim
      rename_i m hsz
      have hpos : 0 < te.size := by omega
      obtain ⟨rows, hsrc, h⟩ := srcK_one h
      split at h <;> try exact h.elim
      · rename_i hx
        obtain ⟨⟨c1, c2⟩, h⟩ := h
        cases rows with
        | nil => exact ej_append_new (n := 0) (rows := []) hT h1 h2 h3 g1 g2 hpos hop (.inl hx) hsrc (fun e => absurd rfl e) c1 c2 (fun _ => by rw [hx]; exact h) (fun e => absurd rfl e)
        | cons r rs =>
          obtain ⟨n, hn, h⟩ := fNew_some h
          exact ej_append_new hT h1 h2 h3 g1 g2 hpos hop (.inl hx) hsrc (fun _ => hn) c1 c2 (fun e => (by cases e)) (fun _ => h)
      · rename_i hx
        obtain ⟨⟨c1, c2⟩, h⟩ := h
        cases rows with
        | nil => exact ej_append_new (n := 0) (rows := []) hT h1 h2 h3 g1 g2 hpos hop (.inr hx) hsrc (fun e => absurd rfl e) c1 c2 (fun _ => by rw [hx]; exact h) (fun e => absurd rfl e)
        | cons r rs =>
          obtain ⟨n, hn, h⟩ := fNew_some h
          exact ej_append_new hT h1 h2 h3 g1 g2 hpos hop (.inr hx) hsrc (fun _ => hn) c1 c2 (fun e => (by cases e)) (fun _ => h)
      · rename_i id sz len cap hx
        split at h <;> try exact h.elim
        rename_i sz' old hid
        split at h <;> try exact h.elim
        rename_i hb
        simp only [Bool.and_eq_true] at hb
        have e1 := beq_t hb.1
        have e2 := beq_t hb.2
        subst e1
        subst e2
        obtain ⟨hl, ⟨c1, c2⟩, h⟩ := h
        obtain ⟨n, hn, h⟩ := fNew_some h
        exact ej_append_own hT h1 h2 h3 g1 g2 hpos hop hx hid hl hsrc hn c1 c2 h
    · split at h <;> try exact h.elim
      rename_i x y hargs
      split at h <;> try exact h.elim
      rename_i t t2 htys
      have ha := arr_toList hargs
      have hb := arr_toList htys
      subst ha
      subst hb
      split at h <;> try exact h.elim
      rename_i te hte
      obtain ⟨ti, e, h1, h2, h3⟩ := velem_inv hte
      split at h <;> try exact h.elim
      rename_i te2 hte2
      obtain ⟨ti2, e2, g1, g2, g3⟩ := velem_inv hte2
      split at h <;> try exact h.elim
      rename_i m hsz
      have hpos : 0 < te.size := by omega
      split at h <;> try exact h.elim
      rename_i id sz off len cap hx
      split at h <;> try exact h.elim
      rename_i sz' old hid
      split at h <;> try exact h.elim
      rename_i hb
      simp only [Bool.and_eq_true] at hb
      have e1 := beq_t hb.1
      have e2 := beq_t hb.2
      subst e1
      subst e2
      obtain ⟨h0, h⟩ := h
      obtain ⟨l2, rows, hsrc, h⟩ := srcN_one h
      exact ej_copy hT h1 h2 h3 g1 g2 hpos hop hx hid h0 hsrc h
    · split at h <;> try exact h.elim
      rename_i x hargs
      split at h <;> try exact h.elim
      rename_i t htys
      have ha := arr_toList hargs
      have hb := arr_toList htys
      subst ha
      subst hb
      split at h <;> try exact h.elim
      rename_i te hte
      obtain ⟨ti, e, h1, h2, h3⟩ := velem_inv hte
      split at h <;> try exact h.elim
      rename_i id sz off len cap hx
      split at h <;> try exact h.elim
      rename_i sz' old hid
      split at h <;> try exact h.elim
      rename_i hb
      simp only [Bool.and_eq_true] at hb
      have e1 := beq_t hb.1
      have e2 := beq_t hb.2
      subst e1
      subst e2
      exact ej_clear hT h1 h2 h3 hop hx hid h.1 h.2
    · split at h <;> try exact h.elim
      rename_i x k hargs
      split at h <;> try exact h.elim
      rename_i t t2 htys
      have ha := arr_toList hargs
      have hb := arr_toList htys
      subst ha
      subst hb
      split at h <;> try exact h.elim
      rename_i ti ht
      split at h <;> try exact h.elim
      rename_i kt et hu
      split at h <;> try exact h.elim
      rename_i c hk
      split at h <;> try exact h.elim
      rename_i kx hkx
      split at h <;> try exact h.elim
      · rename_i id hx
        split at h <;> try exact h.elim
        rename_i es hm
        obtain ⟨hs, es', ⟨h1, h2, h3⟩, h⟩ := h
        exact ej_delete hT ht hu hk hs hop hx hm (dxOf_av hkx) h1 h2 h3 h
      · rename_i hx
        exact ej_delete_nil hT ht hu hk hop hx (dxOf_av hkx) h.1 h.2
    split at h <;> try exact h.elim
    rename_i g caps hg
    rw [fAVs_eq] at h
    obtain ⟨ρ0, h⟩ := occsK_some h
    obtain ⟨ρ, h⟩ := reachK_some h
    split at h <;> try exact h.elim
    rename_i hnd
    split at h <;> try exact h.elim
    rename_i args1 hrn
    rw [fAVs_eq] at h
    split at h <;> try exact h.elim
    rename_i s0 hs0
    rw [fSt_eq] at h
    obtain ⟨args', R, ⟨h1, h2⟩, h3⟩ := h
    refine ej_call hop hg hrn h1 hnd hs0 h2 fun res s1 hR => ?_
    obtain ⟨τ, q⟩ := tauK_some (h3 res s1 hR)
    split at q <;> try exact q.elim
    rename_i q1
    simp only [Bool.and_eq_true] at q1
    split at q <;> try exact q.elim
    rename_i s' hs'
    split at q <;> try exact q.elim
    rename_i res' hres'
    exact ⟨τ, s', res', q1.1.1, q1.1.2, q1.2, hs', hres', q⟩
  | _ => exact (by simp [veff] at h)

/-- Guards that are known not to be met. -/
def deadC (dead : List (List (Nat × Bool))) (gs : List (Nat × Bool)) : Bool := dead.any fun c => c.all (inL gs)
def skipB (re : List RE) (dead : List (List (Nat × Bool))) (o : Oper) : Bool := match dead with
  | [] => false
  | _ :: _ => match o.guard with
    | none => false
    | some (j, p) => match rfind re j with
      | some e => deadC dead e.gs || (match e.v with
        | .d (.bool _) => deadC dead ((j, p) :: e.gs)
        | _ => false)
      | none => false
def isCallV : Op → Bool
  | .call c => match c.callee with
    | .value _ => true
    | _ => false
  | _ => false
def orB (b : Bool) (p q : Prop) : Prop := match b with
  | true => p ∨ q
  | false => q
def orC (b : Bool) (p q : Prop) : Prop := match b with
  | true => p ∨ q
  | false => p
theorem orC_or {b : Bool} {p q : Prop} (h : orC b p q) : p ∨ q := by
  cases b with
  | true => exact h
  | false => exact .inl h
theorem orB_or {b : Bool} {p q : Prop} (h : orB b p q) : p ∨ q := by
  cases b with
  | true => exact h
  | false => exact .inr h
def vseq (P : Program) (cx : Ctx) (env : Env) : List Oper → Nat → List RE → List (List (Nat × Bool)) → List AB → List (Nat × AB) → (List RE → List AB → List (Nat × AB) → Prop) → Prop
  | [], _, re, _, L, s, K => K re L s
  | o :: rest, i, re, dead, L, s, K => match skipB re dead o && okw cx.nt re o with
    | true => fG (gsOf re o.guard) fun gs => fO o.dst fun d => fN (i + 1) fun i1 => vseq P cx env rest i1 (⟨i, d, gs, .undef⟩ :: re) dead L s K
    | false => match okop cx.nt re o with
      | true => fG (gsOf re o.guard) fun gs => match isEff o.op with
        | true => orB (isCallV o.op) (vop P cx (sg re gs) (rho cx.G env re) L s o.op fun v new => fAV 100 v fun v => fApp L new fun L => fO o.dst fun d => fN (i + 1) fun i1 => vseq P cx env rest i1 (⟨i, d, gs, v⟩ :: re) dead L s K)
          (match gs with
            | [] => orC (isCallV o.op) (veff P cx (rho cx.G env re) L s o.op fun v L' s' => fAV 100 v fun v => fABs L' fun L' => fSt s' fun s' => fO o.dst fun d => fN (i + 1) fun i1 => vseq P cx env rest i1 (⟨i, d, [], v⟩ :: re) dead L' s' K)
              (EJ P cx.G o (rho cx.G env re) L s fun v L' s' => fAV 100 v fun v => fABs L' fun L' => fSt s' fun s' => fO o.dst fun d => fN (i + 1) fun i1 => vseq P cx env rest i1 (⟨i, d, [], v⟩ :: re) dead L' s' K)
            | g :: gr => (HG re (g :: gr) → veff P cx (rho cx.G env re) L s o.op fun v L' s' => fAV 100 v fun v => fABs L' fun L' => fSt s' fun s' => fO o.dst fun d => fN (i + 1) fun i1 => vseq P cx env rest i1 (⟨i, d, g :: gr, v⟩ :: re) dead L' s' K) ∧
                (¬ HG re (g :: gr) → fO o.dst fun d => fN (i + 1) fun i1 => vseq P cx env rest i1 (⟨i, d, g :: gr, .undef⟩ :: re) ((g :: gr) :: dead) L s K))
        | false => vop P cx (sg re gs) (rho cx.G env re) L s o.op fun v new => fAV 100 v fun v => fApp L new fun L => fO o.dst fun d => fN (i + 1) fun i1 => vseq P cx env rest i1 (⟨i, d, gs, v⟩ :: re) dead L s K
      | false => False

/-- What is known of the frame between two operations of the tail. -/
structure SI (cx : Ctx) (env : Env) (its : List It) (a0 : Act) (L : List AB) (s : List (Nat × AB)) (a : Act) (w : World) (M : Mp) (F U : Nat → Prop) : Prop where
  st : St M F U L s w
  gl : Glob cx.G F w
  slot : ∀ (i : Nat) (it : It), its[i]? = some it → ∀ d, it.o.dst = some d → (HG (reat its i) (gsAt its i it) → RV M F w it.v (slotv a d)) ∧ (¬ HG (reat its i) (gsAt its i it) → slotv a d = Go.undef)
  env : ∀ t, (∀ (i : Nat) (it : It), its[i]? = some it → it.o.dst ≠ some t) → RV M F w (look env t) (slotv a t)
  size : a.tmps.size = cx.nt
  defers : a.defers = a0.defers

section
variable {P : Program} {cx : Ctx} {env : Env} {its : List It} {a0 a : Act} {L : List AB} {s : List (Nat × AB)} {w : World} {M : Mp} {F U : Nat → Prop}

theorem si_operand (hok : ∀ (i : Nat) (it : It), its[i]? = some it → okw cx.nt (reat its i) it.o = true) (hI : SI cx env its a0 L s a w M F U) {x : Operand} {C : List (Nat × Bool)} (hC : HG (reat its its.length) C) (hu : us (reat its its.length) C x = true) :
    RV M F w (rho cx.G env (reat its its.length) x) (a.eval x) := by
  cases x with
  | const v => exact RV.cst v
  | func f => exact .fn f [] [] rfl (fun j x v hj _ => by simp at hj)
  | global g =>
    simp only [rho]
    cases hg : cx.G g with
    | none => exact .undef _
    | some cs => exact .d (hI.gl g cs hg).1
  | tmp t =>
    simp only [rho, us] at hu ⊢
    rw [eval_tmp]
    cases hl : rlook (reat its its.length) t with
    | some e =>
      rw [hl] at hu
      obtain ⟨j, itj, hji, hitj, hdj, rfl, _⟩ := rlook_reat hl
      exact (hI.slot j itj hitj t hdj).1 (HG_move hok hitj (Nat.le_of_lt hji) (Nat.le_refl j) (HG_of_all hu hC))
    | none => exact hI.env t (fun j itj hitj hdj => rlook_none hl j itj (List.getElem?_eq_some_iff.1 hitj).1 hitj hdj)

theorem si_guard {ops : List Oper} (hok : ∀ (i : Nat) (it : It), its[i]? = some it → okw cx.nt (reat its i) it.o = true) (hpre : ∀ (i : Nat) (it : It), its[i]? = some it → ops[i]? = some it.o) (hI : SI cx env its a0 L s a w M F U) {o : Oper} (hg : gok (reat its its.length) o.guard = true) :
    Region.wanted o (yielded ops.toArray a.tmps) = true ↔ HG (reat its its.length) (gsOf (reat its its.length) o.guard) := by
  unfold Region.wanted
  cases hgd : o.guard with
  | none => simp [gsOf, HG]
  | some jp =>
    obtain ⟨j, p⟩ := jp
    rw [hgd] at hg
    simp only [gok] at hg
    cases hf : rfind (reat its its.length) j with
    | none => rw [hf] at hg; cases hg
    | some e =>
      rw [hf] at hg
      simp only at hg
      obtain ⟨itj, hji, hitj, he⟩ := rfind_reat hf
      subst he
      simp only at hg
      split at hg
      · rename_i b hv
        obtain ⟨t, ht⟩ := Option.isSome_iff_exists.1 hg
        have htn : t < a.tmps.size := by rw [hI.size]; exact (okw_dst (hok j itj hitj) ht).1
        simp only []
        rw [yielded_eq (hpre j itj hitj) ht htn]
        obtain ⟨hs1, hs2⟩ := hI.slot j itj hitj t ht
        have hchain : HG (reat its its.length) (gsOf (reat its its.length) (some (j, p))) ↔ b = p ∧ HG (reat its j) (gsAt its j itj) := by
          rw [HG_all]
          simp only [gsOf, hf, List.mem_cons, forall_eq_or_imp]
          have hlit : lit (reat its its.length) j p ↔ b = p := by unfold lit; rw [hf]; simp only [hv]
          rw [hlit]
          refine and_congr_right fun _ => ?_
          rw [← HG_all]
          exact ⟨fun h => HG_move hok hitj (Nat.le_of_lt hji) (Nat.le_refl j) h, fun h => HG_move hok hitj (Nat.le_refl j) (Nat.le_of_lt hji) h⟩
        rw [hchain]
        by_cases hj : HG (reat its j) (gsAt its j itj)
        · have h1 := hs1 hj
          rw [hv] at h1
          rw [h1.bool_inv]
          simp only [beq_iff_eq, Option.some.injEq]
          exact ⟨fun h => ⟨h, hj⟩, fun h => h.1⟩
        · rw [hs2 hj]
          exact ⟨fun h => (by cases h), fun h => absurd h.2 hj⟩
      · cases hg

theorem si_dead {ops : List Oper} (hok : ∀ (i : Nat) (it : It), its[i]? = some it → okw cx.nt (reat its i) it.o = true) (hpre : ∀ (i : Nat) (it : It), its[i]? = some it → ops[i]? = some it.o) (hI : SI cx env its a0 L s a w M F U) {o : Oper} {dead : List (List (Nat × Bool))}
    (hd : ∀ c ∈ dead, ¬ HG (reat its its.length) c) (ho : okw cx.nt (reat its its.length) o = true) (hs : skipB (reat its its.length) dead o = true) :
    Region.wanted o (yielded ops.toArray a.tmps) ≠ true ∧ ¬ HG (reat its its.length) (gsOf (reat its its.length) o.guard) := by
  have hs : (match o.guard with
    | none => false
    | some (j, p) => match rfind (reat its its.length) j with
      | some e => deadC dead e.gs || (match e.v with
        | .d (.bool _) => deadC dead ((j, p) :: e.gs)
        | _ => false)
      | none => false) = true := by
    unfold skipB at hs
    split at hs
    · cases hs
    · exact hs
  split at hs <;> try cases hs
  rename_i j p hg
  obtain ⟨e, hf, hsl⟩ := okw_guard ho hg
  rw [hf] at hs
  simp only [Bool.or_eq_true] at hs
  have dc : ∀ {gs : List (Nat × Bool)}, deadC dead gs = true → ¬ HG (reat its its.length) gs := fun h hgs => by
    unfold deadC at h
    obtain ⟨c, hc, hall⟩ := List.any_eq_true.1 h
    exact hd c hc (HG_of_all hall hgs)
  have hgs : gsOf (reat its its.length) o.guard = (j, p) :: e.gs := by simp only [hg, gsOf, hf]
  rcases hs with hs | hs
  · have hne := dc hs
    refine ⟨?_, fun h => hne ?_⟩
    · obtain ⟨itj, hji, hitj, he⟩ := rfind_reat hf
      subst he
      obtain ⟨t, ht⟩ := Option.isSome_iff_exists.1 hsl
      have htn : t < a.tmps.size := by rw [hI.size]; exact (okw_dst (hok j itj hitj) ht).1
      unfold Region.wanted
      rw [hg]
      simp only
      rw [yielded_eq (hpre j itj hitj) ht htn]
      have hj : ¬ HG (reat its j) (gsAt its j itj) := fun h => hne (HG_move hok hitj (Nat.le_refl j) (Nat.le_of_lt hji) h)
      rw [(hI.slot j itj hitj t ht).2 hj]
      simp [Go.undef]
    · rw [hgs, HG_all] at h
      rw [HG_all]
      exact fun l hl => h l (by simp [hl])
  · split at hs <;> try cases hs
    rename_i b hv
    have hne : ¬ HG (reat its its.length) (gsOf (reat its its.length) o.guard) := by rw [hgs]; exact dc hs
    refine ⟨fun hw => hne ((si_guard (ops := ops) hok hpre hI ?_).1 hw), hne⟩
    unfold gok
    rw [hg]
    simp only [hf, hv]
    exact hsl

theorem si_opn (hok : ∀ (i : Nat) (it : It), its[i]? = some it → okw cx.nt (reat its i) it.o = true) (hI : SI cx env its a0 L s a w M F U) {o : Oper} (hu : usall (reat its its.length) (gsOf (reat its its.length) o.guard) o.op = true)
    (hC : HG (reat its its.length) (gsOf (reat its its.length) o.guard)) : Opn o.op (rho cx.G env (reat its its.length)) M F w a := by
  unfold Opn
  split
  · rename_i c x y hop
    rw [hop] at hu
    simp only [usall, Bool.and_eq_true] at hu
    obtain ⟨⟨hu1, hu2⟩, hu3⟩ := hu
    refine ⟨si_operand hok hI hC hu1, fun p hp => ?_⟩
    have key : ∀ (q : Bool) (z : Operand), p = q → usp (reat its its.length) (gsOf (reat its its.length) o.guard) c q z = true → RV M F w (rho cx.G env (reat its its.length) z) (a.eval z) := by
      intro q z hpq hus
      cases z with
      | const v => exact si_operand hok hI hC rfl
      | func f => exact si_operand hok hI hC rfl
      | global g => exact si_operand hok hI hC rfl
      | tmp t =>
        simp only [usp] at hus
        cases hl : rlook (reat its its.length) t with
        | none => exact si_operand hok hI hC (by simp [us, hl])
        | some e =>
          rw [hl] at hus
          simp only at hus
          cases c with
          | tmp tc =>
            simp only at hus
            cases hlc : rlook (reat its its.length) tc with
            | none =>
              rw [hlc] at hus
              exact si_operand hok hI hC (by simp only [us, hl]; exact hus)
            | some ec =>
              rw [hlc] at hus
              simp only at hus
              have hC2 : HG (reat its its.length) ((ec.idx, q) :: gsOf (reat its its.length) o.guard) := by
                rw [HG_all]
                intro l hl'
                rcases List.mem_cons.1 hl' with rfl | hl'
                · obtain ⟨jc, itc, hjc, hitc, hdc, hec, _⟩ := rlook_reat hlc
                  subst hec
                  unfold lit
                  rw [reat_at hjc hitc]
                  simp only [rho, hlc] at hp
                  simp only [hp]
                  exact hpq
                · exact HG_all.1 hC l hl'
              exact si_operand hok hI hC2 (by simp only [us, hl]; exact hus)
          | const v => exact si_operand hok hI hC (by simp only [us, hl]; exact hus)
          | func f => exact si_operand hok hI hC (by simp only [us, hl]; exact hus)
          | global g => exact si_operand hok hI hC (by simp only [us, hl]; exact hus)
    exact ⟨fun h => key true x h hu2, fun h => key false y h hu3⟩
  · rename_i hop
    intro x hx
    refine si_operand hok hI hC ?_
    have : o.op.operands.toList.all (us (reat its its.length) (gsOf (reat its its.length) o.guard)) = true := by
      revert hu
      unfold usall
      split
      · rename_i c x y h; exact absurd h (hop c x y)
      · exact fun h => h
    exact List.all_eq_true.1 this x hx
end
end Go.Pv
/- The telling of code, of a function. -/
namespace Go.Pv
open Go.RowKit

/-- Where a call began. -/
structure Z where
  w0 : World
  g0 : Nat → Option Nat
  F0 : Nat → Prop
  U0 : Nat → Prop
  s0 : List (Nat × AB)
structure Sin (z : Z) (M : Mp) (F U : Nat → Prop) (s : List (Nat × AB)) (w : World) : Prop where
  g : ∀ id b, z.g0 id = some b → M.g id = some b
  FF : ∀ b, z.F0 b → F b
  UU : ∀ b, z.U0 b → U b
  Fn : ∀ b, F b → z.F0 b ∨ z.w0.heap.size ≤ b ∨ LiveG z.g0 z.s0 b
  ext : Ext z.U0 z.w0 w
  ll : ∀ k b, M.l k = some b → z.w0.heap.size ≤ b
  lg : ∀ id ab b, (id, ab) ∈ s → ab ≠ .dead → M.g id = some b → z.w0.heap.size ≤ b ∨ LiveG z.g0 z.s0 b
  ids : ∀ id ab, (id, ab) ∈ s → (∃ ab0, (id, ab0) ∈ z.s0) ∨ z.g0 id = none

theorem Sin.eff {z : Z} {M M' : Mp} {F U F' U' : Nat → Prop} {s s' : List (Nat × AB)} {w w' : World} {L' : List AB} {v : AV} {val : Value} (h : Sin z M F U s w) (e : Eff M F U s w L' s' v val M' F' U' w') : Sin z M' F' U' s' w' := by
  have hsz := h.ext.size
  have hl : ∀ b, LiveG M.g s b → z.w0.heap.size ≤ b ∨ LiveG z.g0 z.s0 b := fun b ⟨id, ab, h1, h2, h3⟩ => h.lg id ab b h1 h2 h3
  refine ⟨fun id b hb => e.le (.g id) b (h.g id b hb), fun b hb => e.FF b (h.FF b hb), fun b hb => e.UU b (h.UU b hb), fun b hb => ?_, h.ext.trans e.ext h.UU, fun k b hb => ?_, fun id ab b h1 h2 h3 => ?_, fun id ab h1 => ?_⟩
  · rcases e.Fn b hb with q | q | q | ⟨k, q⟩
    · exact h.Fn b q
    · exact .inr (.inl (by omega))
    · exact .inr (hl b q)
    · exact .inr (.inl (h.ll k b q))
  · rcases e.ll k b hb with q | ⟨k', q⟩
    · omega
    · exact h.ll k' b q
  · rcases e.lg id ab b h1 h2 h3 with q | q | ⟨k, q⟩
    · exact .inl (by omega)
    · exact hl b q
    · exact .inl (h.ll k b q)
  · rcases e.ids id ab h1 with ⟨ab0, q⟩ | q
    · exact h.ids id ab0 q
    · cases hg : z.g0 id with
      | none => exact .inr rfl
      | some b => rw [h.g id b hg] at q; cases q

def hasSlot : Env → Nat → Bool
  | [], _ => false
  | (s, _) :: r, t => Nat.beq s t || hasSlot r t
/-- What lives on behind a region. -/
def envOf (keep : List Nat) : List RE → Env → Env
  | [], env => env
  | e :: r, env => match e.slot with
    | none => envOf keep r env
    | some d => match memN d keep with
      | true => (d, match e.gs with
        | [] => e.v
        | _ :: _ => .undef) :: envOf keep r env
      | false => match hasSlot env d with
        | true => (d, .undef) :: envOf keep r env
        | false => envOf keep r env
theorem look_none {env : Env} {t : Nat} (h : hasSlot env t = false) : look env t = .undef := by
  induction env with
  | nil => rfl
  | cons x r ih =>
    obtain ⟨s, v⟩ := x
    simp only [hasSlot, Bool.or_eq_false_iff] at h
    simp only [look, h.1]
    exact ih h.2
theorem look_skip {keep : List Nat} {env : Env} {t : Nat} (hk : memN t keep = false) (he : hasSlot env t = false) : ∀ re : List RE, look (envOf keep re env) t = .undef
  | [] => look_none he
  | e :: r => by
    have ih := look_skip hk he r
    simp only [envOf]
    split
    · exact ih
    · rename_i d hd
      split
      · rename_i hm
        simp only [look]
        split
        · rename_i hb
          have := beq_t hb
          subst this
          rw [hk] at hm
          cases hm
        · exact ih
      · split
        · rename_i hh
          simp only [look]
          split
          · rename_i hb
            have := beq_t hb
            subst this
            exact absurd hh (by rw [he]; simp)
          · exact ih
        · exact ih
theorem envOf_rv {keep : List Nat} {env : Env} {M : Mp} {F : Nat → Prop} {w : World} {t : Nat} {v : Value} : ∀ (re : List RE), (∀ e, rlook re t = some e → e.gs = [] → RV M F w e.v v) → (rlook re t = none → RV M F w (look env t) v) → RV M F w (look (envOf keep re env) t) v
  | [], _, h2 => h2 rfl
  | e :: r, h1, h2 => by
    cases hs : e.slot with
    | none =>
      have hr : rlook (e :: r) t = rlook r t := by simp only [rlook, hs]
      simp only [envOf, hs]
      exact envOf_rv r (fun e' h => h1 e' (by rw [hr]; exact h)) (fun h => h2 (by rw [hr]; exact h))
    | some d =>
      cases hb : Nat.beq d t with
      | true =>
        have := beq_t hb
        subst this
        have hr : rlook (e :: r) d = some e := by simp only [rlook, hs, hb]
        simp only [envOf, hs]
        split
        · simp only [look, hb]
          split
          · rename_i hg; exact h1 e hr hg
          · exact .undef _
        · rename_i hm
          split
          · simp only [look, hb]; exact .undef _
          · rename_i hh
            rw [look_skip hm hh]
            exact .undef _
      | false =>
        have hr : rlook (e :: r) t = rlook r t := by simp only [rlook, hs, hb]
        have ih := envOf_rv (keep := keep) (env := env) r (fun e' h => h1 e' (by rw [hr]; exact h)) (fun h => h2 (by rw [hr]; exact h))
        simp only [envOf, hs]
        split
        · simp only [look, hb]; exact ih
        · split
          · simp only [look, hb]; exact ih
          · exact ih

/-- What is known between two statements. -/
structure CS (cx : Ctx) (M : Mp) (F U : Nat → Prop) (L : List AB) (s : List (Nat × AB)) (w : World) (env : Env) (a : Act) : Prop where
  st : St M F U L s w
  gl : Glob cx.G F w
  env : ∀ t, RV M F w (look env t) (slotv a t)
  size : a.tmps.size = cx.nt
  defers : a.defers = []

def QK (cx : Ctx) (z : Z) (K : Exit → Env → List AB → List (Nat × AB) → Prop) : Exit → Act → World → Prop := fun e a w => ∃ env L s M F U, K e env L s ∧ CS cx M F U L s w env a ∧ Sin z M F U s w

section
variable {P : Program} {cx : Ctx} {env : Env} {its : List It} {a0 a : Act} {L : List AB} {s : List (Nat × AB)} {w : World} {M : Mp} {F U : Nat → Prop} {z : Z}

theorem its_snoc {its : List It} {it : It} {i : Nat} {it' : It} (h : (its ++ [it])[i]? = some it') : its[i]? = some it' ∧ i < its.length ∨ i = its.length ∧ it' = it := by
  rcases Nat.lt_or_ge i its.length with hi | hi
  · rw [List.getElem?_append_left hi] at h
    exact .inl ⟨h, hi⟩
  · have : i = its.length := by
      have := (List.getElem?_eq_some_iff.1 h).1
      simp at this
      omega
    subst this
    simp at h
    exact .inr ⟨rfl, h.symm⟩

/-- One more operation is over. -/
theorem si_put (hI : SI cx env its a0 L s a w M F U) {o : Oper} (ho : okw cx.nt (reat its its.length) o = true) {v : AV} {val : Value} {M' : Mp} {F' U' : Nat → Prop} {w' : World} {L' : List AB} {s' : List (Nat × AB)} {new : List AB}
    (hle : M.Le M') (hFF : ∀ b, F b → F' b) (hX : Ext U w w') (hst : St M' F' U' L' s' w')
    (h1 : HG (reat its its.length) (gsOf (reat its its.length) o.guard) → RV M' F' w' v val) (h2 : ¬ HG (reat its its.length) (gsOf (reat its its.length) o.guard) → val = Go.undef) :
    SI cx env (its ++ [⟨o, v, new⟩]) a0 L' s' (a.put o.dst val) w' M' F' U' := by
  have hdlt : ∀ d, o.dst = some d → d < a.tmps.size := fun d hd => by rw [hI.size]; exact (okw_dst ho hd).1
  refine ⟨hst, hI.gl.mono hFF hI.st.FU hX, fun i it hit d hd => ?_, fun t ht => ?_, by rw [size_put]; exact hI.size, by rw [defers_put]; exact hI.defers⟩
  · rw [slotv_put hdlt]
    unfold gsAt
    rcases its_snoc hit with ⟨hi, hlt⟩ | ⟨rfl, rfl⟩
    · rw [reat_app (by omega), if_neg (fun h => rlook_none (okw_dst ho h).2 i it hlt hi hd)]
      obtain ⟨q1, q2⟩ := hI.slot i it hi d hd
      exact ⟨fun h => (q1 h).mono hle hFF hI.st.FU hX, q2⟩
    · rw [reat_app (Nat.le_refl _), if_pos hd]
      exact ⟨h1, h2⟩
  · rw [slotv_put hdlt, if_neg (fun h => ht its.length ⟨o, v, new⟩ (by simp) h)]
    exact (hI.env t (fun i it hit => ht i it (by rw [List.getElem?_append_left (List.getElem?_eq_some_iff.1 hit).1]; exact hit))).mono hle hFF hI.st.FU hX

theorem grew_eff {new : List AB} {v : AV} {val : Value} {M' : Mp} {F' U' : Nat → Prop} {w' : World} (hS : St M F U L s w) (h : Grew M F U w L s new v val M' F' U' w') : Eff M F U s w (L ++ new) s v val M' F' U' w' := by
  refine ⟨h.le, h.FF, h.UU, h.ext.mono (fun b hb => hS.Ult b hb), h.st, h.rv, fun b hb => ?_, fun k b hb => ?_, fun id ab b h1 h2 h3 => ?_, fun id ab h1 => .inl ⟨ab, h1⟩⟩
  · rcases h.Fn b hb with q | q
    · exact .inl q
    · exact .inr (.inl q)
  · rcases Nat.lt_or_ge k L.length with q | q
    · rw [h.old k q] at hb; exact .inr ⟨k, hb⟩
    · exact .inl (h.fresh k b q hb)
  · obtain ⟨b', hb'⟩ := hS.tot id ab h1
    have := h.le (.g id) b' hb'
    simp only [Mp.at_] at this
    rw [this] at h3
    cases h3
    exact .inr (.inl ⟨id, ab, h1, h2, hb'⟩)

/-- What is known not to be met stays so. -/
theorem dead_app {its : List It} {it : It} {c : List (Nat × Bool)} {i : Nat} {iti : It} (hi : its[i]? = some iti) (hc : c = gsAt its i iti) (h : ¬ HG (reat its i) c) :
    (its ++ [it])[i]? = some iti ∧ c = gsAt (its ++ [it]) i iti ∧ ¬ HG (reat (its ++ [it]) i) c := by
  have hlt := (List.getElem?_eq_some_iff.1 hi).1
  refine ⟨by rw [List.getElem?_append_left hlt]; exact hi, ?_, ?_⟩
  · rw [hc]; unfold gsAt; rw [reat_app (by omega)]
  · rw [reat_app (by omega)]; exact h

/-- The tail. -/
theorem vseq_sound (hT : TabOK P cx.T) {ops : List Oper} {K : List RE → List AB → List (Nat × AB) → Prop} {Q : Exit → Act → World → Prop} : ∀ (rest : List Oper) (its : List It) (dead : List (List (Nat × Bool))) (L : List AB) (s : List (Nat × AB)) (a : Act) (w : World) (M : Mp) (F U : Nat → Prop),
    (∀ (i : Nat) (it : It), its[i]? = some it → okw cx.nt (reat its i) it.o = true) → (∀ c ∈ dead, ∃ i iti, its[i]? = some iti ∧ c = gsAt its i iti ∧ ¬ HG (reat its i) c) → ops = its.map (·.o) ++ rest → SI cx env its a0 L s a w M F U → Sin z M F U s w →
    vseq P cx env rest its.length (reat its its.length) dead L s K →
    (∀ its' L' s' a' w' M' F' U', (∀ (i : Nat) (it : It), its'[i]? = some it → okw cx.nt (reat its' i) it.o = true) → ops = its'.map (·.o) → K (reat its' its'.length) L' s' → SI cx env its' a0 L' s' a' w' M' F' U' → Sin z M' F' U' s' w' → Q .normal a' w') →
    wpOps P ops.toArray Q (List.range' its.length rest.length) a w
  | [], its, dead, L, s, a, w, M, F, U, hok, _, hops, hI, hZ, h, hQ => by
    simp only [List.length_nil, List.range'_zero, wpOps]
    exact hQ its L s a w M F U hok (by simpa using hops) (by simpa [vseq] using h) hI hZ
  | o :: rest, its, dead, L, s, a, w, M, F, U, hok, hdead, hops, hI, hZ, h, hQ => by
    simp only [vseq, fG_eq, fAV_eq, fApp_eq, fABs_eq, fSt_eq, fO_eq, fN_eq] at h
    have hoi : ops[its.length]? = some o := by rw [hops]; simp
    have hpre : ∀ (i : Nat) (it : It), its[i]? = some it → ops[i]? = some it.o := fun i it hit => by
      rw [hops, List.getElem?_append_left (by simpa using (List.getElem?_eq_some_iff.1 hit).1), List.getElem?_map, hit]; rfl
    have hdead' : ∀ c ∈ dead, ¬ HG (reat its its.length) c := fun c hc => by
      obtain ⟨i, iti, h1, h2, h3⟩ := hdead c hc
      intro hg
      rw [h2] at hg h3
      exact h3 (HG_move hok h1 (Nat.le_of_lt (List.getElem?_eq_some_iff.1 h1).1) (Nat.le_refl i) hg)
    rw [List.length_cons, List.range'_succ, wpOps_cons]
    -- whatever the operation comes to, the rest goes on
    have go : ∀ (v : AV) (new : List AB) (gs : List (Nat × Bool)) (dead2 : List (List (Nat × Bool))) (L' : List AB) (s' : List (Nat × AB)) (val : Value) (M' : Mp) (F' U' : Nat → Prop) (w' : World), okw cx.nt (reat its its.length) o = true → gs = gsOf (reat its its.length) o.guard →
        (dead2 = dead ∨ (dead2 = gs :: dead ∧ ¬ HG (reat its its.length) gs)) →
        vseq P cx env rest (its.length + 1) (⟨its.length, o.dst, gs, v⟩ :: reat its its.length) dead2 L' s' K →
        M.Le M' → (∀ b, F b → F' b) → Ext U w w' → St M' F' U' L' s' w' → Sin z M' F' U' s' w' →
        (HG (reat its its.length) (gsOf (reat its its.length) o.guard) → RV M' F' w' v val) → (¬ HG (reat its its.length) (gsOf (reat its its.length) o.guard) → val = Go.undef) →
        wpOps P ops.toArray Q (List.range' (its.length + 1) rest.length) (a.put o.dst val) w' := by
      intro v new gs dead2 L' s' val M' F' U' w' hoko hgs hd2 hv hle hFF hX hst hZ' h1 h2
      subst hgs
      have hlast : (its ++ [(⟨o, v, new⟩ : It)])[its.length]? = some (⟨o, v, new⟩ : It) := by simp
      have hre : reat (its ++ [(⟨o, v, new⟩ : It)]) (its ++ [(⟨o, v, new⟩ : It)]).length = ⟨its.length, o.dst, gsOf (reat its its.length) o.guard, v⟩ :: reat its its.length := by
        rw [List.length_append, List.length_singleton, reat, hlast]
        simp only [reat_app (its2 := [(⟨o, v, new⟩ : It)]) (Nat.le_refl its.length)]
      have := vseq_sound (ops := ops) hT rest (its ++ [(⟨o, v, new⟩ : It)]) dead2 L' s' (a.put o.dst val) w' M' F' U' (fun i it hit => ?_) (fun c hc => ?_) (by rw [hops]; simp) (si_put hI hoko hle hFF hX hst h1 h2) hZ' (by rw [hre]; simpa using hv) hQ
      · simpa using this
      · rcases its_snoc hit with ⟨hi, hlt⟩ | ⟨rfl, rfl⟩
        · rw [reat_app (by omega)]; exact hok i it hi
        · rw [reat_app (Nat.le_refl _)]; exact hoko
      · have old : c ∈ dead → ∃ i iti, (its ++ [(⟨o, v, new⟩ : It)])[i]? = some iti ∧ c = gsAt (its ++ [(⟨o, v, new⟩ : It)]) i iti ∧ ¬ HG (reat (its ++ [(⟨o, v, new⟩ : It)]) i) c := fun hc => by
          obtain ⟨i, iti, k1, k2, k3⟩ := hdead c hc
          exact ⟨i, iti, dead_app k1 k2 k3⟩
        rcases hd2 with rfl | ⟨rfl, hn⟩
        · exact old hc
        · rcases List.mem_cons.1 hc with rfl | hc
          · exact ⟨its.length, _, hlast, by unfold gsAt; rw [reat_app (Nat.le_refl _)], by rw [reat_app (Nat.le_refl _)]; exact hn⟩
          · exact old hc
    unfold wpOp
    simp only [List.getElem?_toArray, hoi]
    split at h
    · -- not met, as is known
      rename_i hsk
      simp only [Bool.and_eq_true] at hsk
      obtain ⟨hw, hn⟩ := si_dead (ops := ops) hok hpre hI hdead' hsk.2 hsk.1
      rw [if_neg hw]
      exact go .undef [] _ dead L s Go.undef M F U w hsk.2 rfl (.inl rfl) h (.refl M) (fun _ h => h) (.refl _ _) hI.st hZ (fun h => absurd h hn) (fun _ => rfl)
    split at h <;> try exact h.elim
    rename_i hoko
    have hokw := okop_okw hoko
    have hgd := si_guard (ops := ops) hok hpre hI (okop_gok hoko)
    have pure_ : (vop P cx (sg (reat its its.length) (gsOf (reat its its.length) o.guard)) (rho cx.G env (reat its its.length)) L s o.op fun v new => vseq P cx env rest (its.length + 1) (⟨its.length, o.dst, gsOf (reat its its.length) o.guard, v⟩ :: reat its its.length) dead (L ++ new) s K) →
        (if Region.wanted o (yielded ops.toArray a.tmps) = true then o.wp P a w (fun a' w' => wpOps P ops.toArray Q (List.range' (its.length + 1) rest.length) a' w') Q ∨ (o.asks P a w ∧ LetsOut Q) else wpOps P ops.toArray Q (List.range' (its.length + 1) rest.length) (a.put o.dst Go.undef) w) := by
      intro h
      obtain ⟨v, new, hpj, h⟩ := vop_sound hT (H := HG (reat its its.length) (gsOf (reat its its.length) o.guard)) (fun p hp hg => sg_im p hp hg) h
      by_cases hw : Region.wanted o (yielded ops.toArray a.tmps) = true
      · rw [if_pos hw]
        left
        have hg := hgd.1 hw
        refine wp_noQ (Oper.wp_mono ?_ (hpj hg M F U w a hI.st hI.gl (si_opn hok hI (okop_us hoko) hg)))
        rintro a' w' ⟨val, M', F', U', rfl, hG⟩
        have e := grew_eff hI.st hG
        exact go v new _ dead (L ++ new) s val M' F' U' w' hokw rfl (.inl rfl) h e.le e.FF e.ext e.st (hZ.eff e) (fun _ => e.rv) (fun h => absurd hg h)
      · rw [if_neg hw]
        have hg : ¬ HG (reat its its.length) (gsOf (reat its its.length) o.guard) := fun h => hw (hgd.2 h)
        -- the places that it would have laid are nobody's
        have hst' : St M F U (L ++ new) s w := by
          have hh : ∀ r ab b, Here (L ++ new) s r ab → M.at_ r = some b → Here L s r ab := fun r ab b hr hm => by
            cases r with
            | g id => exact hr
            | l n =>
              rcases Nat.lt_or_ge n L.length with q | q
              · simp only [Here] at hr ⊢
                rwa [List.getElem?_append_left q] at hr
              · rw [show M.at_ (.l n) = M.l n from rfl, hI.st.dom n q] at hm; cases hm
          exact ⟨fun r ab b hr hm => hI.st.rb r ab b (hh r ab b hr hm) hm, fun r r' a1 a2 b h1 h2 d1 d2 m1 m2 => hI.st.inj r r' a1 a2 b (hh _ _ _ h1 m1) (hh _ _ _ h2 m2) d1 d2 m1 m2, fun r ab b hr hd hm => hI.st.nU r ab b (hh r ab b hr hm) hd hm, hI.st.nd, hI.st.FU, hI.st.Ult, fun k hk => hI.st.dom k (by simp at hk; omega), hI.st.tot, hI.st.gdom⟩
        exact go v new _ dead (L ++ new) s Go.undef M F U w hokw rfl (.inl rfl) h (.refl M) (fun _ h => h) (.refl _ _) hst' hZ (fun h => absurd h hg) (fun _ => rfl)
    split at h
    · rename_i heff
      rcases orB_or h with h | h
      · exact pure_ h
      have eff_ : ∀ (gs : List (Nat × Bool)), gs = gsOf (reat its its.length) o.guard → Region.wanted o (yielded ops.toArray a.tmps) = true →
          EJ P cx.G o (rho cx.G env (reat its its.length)) L s (fun v L' s' => vseq P cx env rest (its.length + 1) (⟨its.length, o.dst, gs, v⟩ :: reat its its.length) dead L' s' K) →
          o.wp P a w (fun a' w' => wpOps P ops.toArray Q (List.range' (its.length + 1) rest.length) a' w') Q := by
        intro gs hgs hw hE
        have hopn := si_opn hok hI (okop_us hoko) (hgd.1 hw)
        have hxs : ∀ x ∈ o.op.operands.toList, RV M F w (rho cx.G env (reat its its.length) x) (a.eval x) := by
          unfold Opn at hopn
          split at hopn
          · rename_i c x y hop
            rw [hop] at heff
            simp [isEff] at heff
          · exact hopn
        refine wp_noQ (Oper.wp_mono ?_ (hE M F U w a hI.st hI.gl hxs))
        rintro a' w' ⟨v, L', s', val, M', F', U', hv, rfl, e⟩
        exact go v [] gs dead L' s' val M' F' U' w' hokw hgs (.inl rfl) hv e.le e.FF e.ext e.st (hZ.eff e) (fun _ => e.rv) (fun h => absurd (hgd.1 hw) h)
      split at h
      · rename_i hgs
        have hw : Region.wanted o (yielded ops.toArray a.tmps) = true := hgd.2 (by rw [hgs]; exact trivial)
        rw [if_pos hw]
        left
        exact eff_ [] hgs.symm hw ((orC_or h).elim (fun h => veff_sound hT h) id)
      · rename_i g gr hgs
        by_cases hw : Region.wanted o (yielded ops.toArray a.tmps) = true
        · rw [if_pos hw]
          left
          exact eff_ (g :: gr) hgs.symm hw (veff_sound hT (h.1 (by rw [← hgs]; exact hgd.1 hw)))
        · rw [if_neg hw]
          have hn : ¬ HG (reat its its.length) (g :: gr) := fun h => hw (hgd.2 (by rw [hgs]; exact h))
          exact go .undef [] (g :: gr) ((g :: gr) :: dead) L s Go.undef M F U w hokw hgs.symm (.inr ⟨rfl, hn⟩) (h.2 hn) (.refl M) (fun _ h => h) (.refl _ _) hI.st hZ (fun h => by rw [hgs] at h; exact absurd h hn) (fun _ => rfl)
    · exact pure_ h

end
end Go.Pv
/- The telling of code. -/
namespace Go.Pv
open Go.RowKit

def hAV (x : AV) (K : AV → Prop) : Prop := match x with
  | .d x => K (.d x)
  | .agg cs => K (.agg cs)
  | .tup cs => K (.tup cs)
  | .ref r off => K (.ref r off)
  | .slc r sz off len cap => K (.slc r sz off len cap)
  | .el r sz i j => K (.el r sz i j)
  | .mp r => K (.mp r)
  | .fn f cs => K (.fn f cs)
  | .ifc t x => K (.ifc t x)
  | .undef => K .undef
theorem hAV_eq (x : AV) (K : AV → Prop) : hAV x K = K x := by cases x <;> rfl
def envK (keep : List Nat) : List RE → Env → (Env → Prop) → Prop
  | [], env, K => K env
  | e :: r, env, K => match e.slot with
    | none => envK keep r env K
    | some d => match memN d keep with
      | true => match e.gs with
        | [] => hAV e.v fun v => envK keep r env fun en => K ((d, v) :: en)
        | _ :: _ => envK keep r env fun en => K ((d, .undef) :: en)
      | false => match hasSlot env d with
        | true => envK keep r env fun en => K ((d, .undef) :: en)
        | false => envK keep r env K
theorem envK_eq (keep : List Nat) : ∀ (re : List RE) (env : Env) (K : Env → Prop), envK keep re env K = K (envOf keep re env)
  | [], _, _ => rfl
  | e :: r, env, K => by
    cases h1 : e.slot with
    | none => simp only [envK, envOf, h1, envK_eq keep r]
    | some d =>
      cases h2 : memN d keep with
      | true => cases h3 : e.gs <;> simp only [envK, envOf, h1, h2, h3, hAV_eq, envK_eq keep r]
      | false => cases h3 : hasSlot env d <;> simp only [envK, envOf, h1, h2, h3, envK_eq keep r]

def vreg (P : Program) (cx : Ctx) (ops : List Oper) (draw : Bool) (env : Env) (L : List AB) (s : List (Nat × AB)) (K : Env → List AB → List (Nat × AB) → Prop) : Prop :=
  ∃ k, (Nat.ble k ops.length && ordOK ops && (!draw || tailOK ops k)) = true ∧ vpre P cx env s (ops.take k) 0 [] L fun re L' => vseq P cx env (ops.drop k) k re [] L' s fun re L'' s' => envK cx.keep re env fun env => K env L'' s'

/-- What code comes to, told of what is known ahead of it. -/
structure VC (P : Program) (cx : Ctx) (c : Code) (env : Env) (L : List AB) (s : List (Nat × AB)) (K : Exit → Env → List AB → List (Nat × AB) → Prop) : Prop where
  h : ∀ (z : Z) (a : Act) (w : World) (M : Mp) (F U : Nat → Prop), CS cx M F U L s w env a → Sin z M F U s w → c.wp P (QK cx z K) a w

section
variable {P : Program} {cx : Ctx} {c x y : Code} {env : Env} {L : List AB} {s : List (Nat × AB)} {K K' : Exit → Env → List AB → List (Nat × AB) → Prop}

theorem QK.mono {z : Z} {e : Exit} {a : Act} {w : World} (h : QK cx z K e a w) (hK : ∀ env L s, K e env L s → K' e env L s) : QK cx z K' e a w := by
  obtain ⟨env, L, s, M, F, U, h1, h2⟩ := h
  exact ⟨env, L, s, M, F, U, hK _ _ _ h1, h2⟩
theorem VC.mono (h : VC P cx c env L s K) (hK : ∀ e env L s, K e env L s → K' e env L s) : VC P cx c env L s K' :=
  .mk fun z a w M F U hC hZ => wp_mono (h.h z a w M F U hC hZ) fun _ _ _ hq => hq.mono (hK _)
theorem VC.skip (h : K .normal env L s) : VC P cx .skip env L s K := .mk fun _ _ _ M F U hC hZ => wp_skip ⟨env, L, s, M, F, U, h, hC, hZ⟩
theorem VC.label {l : Nat} (h : K .normal env L s) : VC P cx (.label l) env L s K := .mk fun _ _ _ M F U hC hZ => wp_label ⟨env, L, s, M, F, U, h, hC, hZ⟩
theorem VC.exit {id : Nat} (h : K (.exit id) env L s) : VC P cx (.exit id) env L s K := .mk fun _ _ _ M F U hC hZ => wp_exit ⟨env, L, s, M, F, U, h, hC, hZ⟩
theorem VC.ret (h : K .ret env L s) : VC P cx .ret env L s K := .mk fun _ _ _ M F U hC hZ => wp_ret ⟨env, L, s, M, F, U, h, hC, hZ⟩

/-- Behind a part, by how it was left. -/
def KThen (J : Env → List AB → List (Nat × AB) → Prop) (K : Exit → Env → List AB → List (Nat × AB) → Prop) : Exit → Env → List AB → List (Nat × AB) → Prop
  | .normal => J
  | e => K e
theorem VC.seq (h : VC P cx x env L s (KThen (fun env L s => VC P cx y env L s K) K)) : VC P cx (.seq x y) env L s K := .mk fun z a w M F U hC hZ => wp_seq (wp_mono (h.h z a w M F U hC hZ) fun e a w hq => by
  obtain ⟨env, L, s, M, F, U, h1, h2, h3⟩ := hq
  cases e with
  | normal => exact h1.h z a w M F U h2 h3
  | _ => exact ⟨env, L, s, M, F, U, h1, h2, h3⟩)
def KBlock (id : Nat) (K : Exit → Env → List AB → List (Nat × AB) → Prop) : Exit → Env → List AB → List (Nat × AB) → Prop
  | .exit id' => match Nat.beq id' id with
    | true => K .normal
    | false => K (.exit id')
  | e => K e
theorem VC.block {id : Nat} (h : VC P cx c env L s (KBlock id K)) : VC P cx (.block id c) env L s K := .mk fun z a w M F U hC hZ => wp_block (wp_mono (h.h z a w M F U hC hZ) fun e a w hq => by
  obtain ⟨env, L, s, M, F, U, h1, h2⟩ := hq
  cases e with
  | exit id' =>
    simp only [Exit.inBlock]
    simp only [KBlock] at h1
    cases hb : Nat.beq id' id with
    | true =>
      rw [hb] at h1
      rw [if_pos (beq_t hb)]
      exact ⟨env, L, s, M, F, U, h1, h2⟩
    | false =>
      rw [hb] at h1
      rw [if_neg (fun h => by subst h; simp at hb)]
      exact ⟨env, L, s, M, F, U, h1, h2⟩
  | _ => exact ⟨env, L, s, M, F, U, h1, h2⟩)
theorem CS.operand {M : Mp} {F U : Nat → Prop} {w : World} {a : Act} (h : CS cx M F U L s w env a) (x : Operand) : RV M F w (rho cx.G env [] x) (a.eval x) := by
  cases x with
  | const v => exact RV.cst v
  | func f => exact .fn f [] [] rfl (fun j x v hj _ => by simp at hj)
  | global g =>
    simp only [rho]
    cases hg : cx.G g with
    | none => exact .undef _
    | some cs => exact .d (h.gl g cs hg).1
  | tmp t => exact h.env t
theorem VC.cond {c : Operand} (h : match rho cx.G env [] c with
    | .d (.bool b) => (b = true → VC P cx x env L s K) ∧ (b = false → VC P cx y env L s K)
    | _ => False) : VC P cx (.cond c x y) env L s K := by
  constructor
  intro z a w M F U hC hZ
  split at h
  · rename_i b hb
    have hx := hC.operand c
    rw [hb] at hx
    refine wp_cond_split hx.bool_inv (fun e => (h.1 e).h z a w M F U hC hZ) (fun e => (h.2 e).h z a w M F U hC hZ)
  · exact h.elim
/-- In rounds: I tells what is known ahead of a round, by a count that goes down. -/
theorem VC.loop (I : Nat → Env → List AB → List (Nat × AB) → Prop) {n : Nat} (h0 : I n env L s)
    (step : ∀ n env L s, I n env L s → VC P cx c env L s (KThen (fun env' L' s' => ∃ m, m < n ∧ I m env' L' s') K)) : VC P cx (.loop c) env L s K := by
  constructor
  intro z a w M F U hC hZ
  have key : ∀ (N n : Nat) (env : Env) (L : List AB) (s : List (Nat × AB)) (a : Act) (w : World) (M : Mp) (F U : Nat → Prop), n < N → I n env L s → CS cx M F U L s w env a → Sin z M F U s w → Code.rounds P c (QK cx z K) N a w := by
    intro N
    induction N with
    | zero => intro n _ _ _ _ _ _ _ _ h; omega
    | succ N ih =>
      intro n env L s a w M F U hn hI hC hZ
      rw [rounds_succ]
      refine wp_mono ((step n env L s hI).h z a w M F U hC hZ) fun e a w hq => ?_
      obtain ⟨env, L, s, M, F, U, h1, h2, h3⟩ := hq
      cases e with
      | normal =>
        obtain ⟨m, hm, hI⟩ := h1
        exact ih m env L s a w M F U (by omega) hI h2 h3
      | _ => exact ⟨env, L, s, M, F, U, h1, h2, h3⟩
  exact wp_loop_rounds (n + 1) (key (n + 1) n env L s a w M F U (by omega) h0 hC hZ)

/-- The same world, told otherwise. -/
def Ghost (cx : Ctx) (env : Env) (L : List AB) (s : List (Nat × AB)) (env' : Env) (L' : List AB) (s' : List (Nat × AB)) : Prop :=
  ∀ (z : Z) (a : Act) (w : World) (M : Mp) (F U : Nat → Prop), CS cx M F U L s w env a → Sin z M F U s w → ∃ M' F' U', CS cx M' F' U' L' s' w env' a ∧ Sin z M' F' U' s' w
theorem Ghost.refl : Ghost cx env L s env L s := fun _ _ _ M F U h1 h2 => ⟨M, F, U, h1, h2⟩
theorem Ghost.trans {e1 e2 e3 : Env} {L1 L2 L3 : List AB} {s1 s2 s3 : List (Nat × AB)} (h : Ghost cx e1 L1 s1 e2 L2 s2) (k : Ghost cx e2 L2 s2 e3 L3 s3) : Ghost cx e1 L1 s1 e3 L3 s3 := fun z a w M F U h1 h2 => by
  obtain ⟨M', F', U', h3, h4⟩ := h z a w M F U h1 h2
  exact k z a w M' F' U' h3 h4
theorem VC.ghost {env' : Env} {L' : List AB} {s' : List (Nat × AB)} (hg : Ghost cx env L s env' L' s') (h : VC P cx c env' L' s' K) : VC P cx c env L s K := .mk fun z a w M F U h1 h2 => by
  obtain ⟨M', F', U', h3, h4⟩ := hg z a w M F U h1 h2
  exact h.h z a w M' F' U' h3 h4
/-- Told otherwise behind it. -/
theorem VC.gpost (h : VC P cx c env L s K) (hK : ∀ e env L s, K e env L s → ∃ env' L' s', Ghost cx env L s env' L' s' ∧ K' e env' L' s') : VC P cx c env L s K' := .mk fun z a w M F U hC hZ => wp_mono (h.h z a w M F U hC hZ) fun e a w hq => by
  obtain ⟨env, L, s, M, F, U, h1, h2, h3⟩ := hq
  obtain ⟨env', L', s', hg, hk⟩ := hK _ _ _ _ h1
  obtain ⟨M', F', U', h4, h5⟩ := hg z a w M F U h2 h3
  exact ⟨env', L', s', M', F', U', hk, h4, h5⟩

theorem VC.region (hT : TabOK P cx.T) (hm : P.follows .mixedOrders = true) {id : Nat} {ops : Array Oper} {draw : Bool} (h : vreg P cx ops.toList draw env L s (K .normal)) : VC P cx (.region id ops draw) env L s K := by
  constructor
  intro z a w M F U hC hZ
  obtain ⟨k, hk, h⟩ := h
  simp only [Bool.and_eq_true, Bool.or_eq_true, Bool.not_eq_true'] at hk
  obtain ⟨⟨hk1, hk2⟩, hk3⟩ := hk
  have hk1 := Nat.le_of_ble_eq_true hk1
  obtain ⟨its, h1, h2, h3⟩ := vpre_sound hT (ops.toList.take k) [] (⟨fun i it h => by simp at h, fun i it h => by simp at h, fun i it h => by simp at h⟩) (by simpa [reat, Lat] using h)
  simp only [List.nil_append] at h2 h3
  have hlen : its.length = k := by
    have := congrArg List.length h1
    simp at this
    simp at hk1
    omega
  have hall : ops.toList = its.map (·.o) ++ ops.toList.drop k := by rw [h1, List.take_append_drop]
  have hpre : ∀ (i : Nat) (it : It), its[i]? = some it → ops.toList[i]? = some it.o := fun i it hit => by
    rw [hall, List.getElem?_append_left (by simpa using (List.getElem?_eq_some_iff.1 hit).1), List.getElem?_map, hit]; rfl
  refine wp_mono (Q := fun e a w => e = .normal ∧ QK cx z K e a w) (wp_region_pre (fun _ _ _ h => h.1) (ops := ops.toList) (its := its) (s := s) (G := cx.G) (nt := cx.nt) (env := env) (L0 := L) (M0 := M) (F0 := F) (U0 := U) ⟨hpre, h2.ok, h2.pj, hk2, h2.sum⟩ hC.st hC.gl hC.env hC.size (by rw [hlen]; exact hk1) hm (fun hd => by rw [hlen]; exact hk3.resolve_left (by rw [hd]; simp)) ?_) (fun _ _ _ h => h.2)
  intro listed a' w' M' F' U' hl hI
  have hX : Ext U w w' := hI.ext.mono hC.st.Ult
  have hsz := hZ.ext.size
  have hget : ∀ id ab b, (id, ab) ∈ s → M'.g id = some b → M.g id = some b := fun id ab b h hb => by
    obtain ⟨b', hb'⟩ := hC.st.tot id ab h
    have := hI.le (.g id) b' hb'
    simp only [Mp.at_] at this
    rw [this] at hb
    cases hb
    exact hb'
  have hZ' : Sin z M' F' U' s w' := by
    refine ⟨fun id b hb => hI.le (.g id) b (hZ.g id b hb), fun b hb => hI.FF b (hZ.FF b hb), fun b hb => hI.UU b (hZ.UU b hb), fun b hb => ?_, hZ.ext.trans hX hZ.UU, fun k b hb => ?_, fun id ab b h1 h2 h3 => hZ.lg id ab b h1 h2 (hget id ab b h1 h3), hZ.ids⟩
    · rcases hI.Fn b hb with q | q
      · exact hZ.Fn b q
      · exact .inr (.inl (by omega))
    · rcases hI.fr k b hb with q | q
      · exact hZ.ll k b q
      · omega
  have hS : SI cx env its a (Lat its L its.length) s a' w' M' F' U' := by
    refine ⟨hI.st, hI.gl, fun i it hit d hd => ?_, fun t ht => ?_, hI.size, hI.defers⟩
    · obtain ⟨q1, q2⟩ := hI.slot i it hit (hl i (List.getElem?_eq_some_iff.1 hit).1) d hd
      exact ⟨fun h => (q1 h).mono (Mp.cut_le _ _) (fun _ h => h) hI.st.FU (.refl _ _), q2⟩
    · rw [hI.other t (fun i it hit _ => ht i it hit)]
      exact (hC.env t).mono hI.le hI.FF hC.st.FU hX
  rw [← hlen] at h3
  have hfin : (ops.toList.length - its.length) = (ops.toList.drop its.length).length := by simp
  rw [hfin]
  rw [← hlen] at hall
  refine vseq_sound (a0 := a) (ops := ops.toList) (K := fun re L'' s' => envK cx.keep re env fun env => K .normal env L'' s') hT (ops.toList.drop its.length) its [] _ s a' w' M' F' U' (fun i it h => okop_okw (h2.ok i it h)) (fun c hc => by cases hc) hall hS hZ' h3 ?_
  intro its' L' s' a'' w'' M'' F'' U'' hok _ hK hS hZ
  rw [envK_eq] at hK
  refine ⟨rfl, _, L', s', M'', F'', U'', hK, ⟨hS.st, hS.gl, fun t => envOf_rv _ (fun e he hg => ?_) (fun hn => hS.env t fun i it hit => rlook_none hn i it (List.getElem?_eq_some_iff.1 hit).1 hit), hS.size, hS.defers.trans hC.defers⟩, hZ⟩
  obtain ⟨j, itj, hji, hitj, hdj, rfl, _⟩ := rlook_reat he
  exact (hS.slot j itj hitj t hdj).1 (by rw [show gsAt its' j itj = [] from hg]; exact trivial)
end
end Go.Pv
/- A function's contract, of its body's telling. -/
namespace Go.Pv
open Go.RowKit

def argEnv : Nat → List AV → Env
  | _, [] => []
  | k, v :: r => (k, v) :: argEnv (k + 1) r
theorem look_argEnv : ∀ (args : List AV) (k t : Nat), look (argEnv k args) t = if k ≤ t then (args[t - k]?).getD .undef else .undef
  | [], k, t => by simp [argEnv, look]
  | v :: r, k, t => by
    simp only [argEnv, look]
    split
    · rename_i h
      have := beq_t h
      subst this
      simp
    · rename_i h
      have hne := beq_f h
      rw [look_argEnv r (k + 1) t]
      by_cases hk : k ≤ t
      · rw [if_pos hk, if_pos (by omega), show t - k = (t - (k + 1)) + 1 by omega]
        simp
      · rw [if_neg hk, if_neg (by omega)]

/-- What a result variable holds. -/
def vres1 (T : Nat → Option TI) (env : Env) (L : List AB) : ResultVar → Option AV
  | .tmp t => some (look env t)
  | .cell a t => match T t with
    | some ti => match look env a with
      | .ref (.l k) off => match L[k]? with
        | some (.cells cs) => match Nat.beq (takeN cs off ti.size).length ti.size with
          | true => ofCells ti.agg (takeN cs off ti.size)
          | false => none
        | _ => none
      | _ => none
    | none => none
def vresL (T : Nat → Option TI) (env : Env) (L : List AB) : List ResultVar → Option (List AV)
  | [] => some []
  | r :: rs => match vres1 T env L r with
    | some v => match vresL T env L rs with
      | some vs => some (v :: vs)
      | none => none
    | none => none
def vres (T : Nat → Option TI) (env : Env) (L : List AB) : List ResultVar → Option AV
  | [r] => vres1 T env L r
  | rs => match vresL T env L rs with
    | some vs => some (.tup vs)
    | none => none
def VR (T : Nat → Option TI) (rs : List ResultVar) (R : AV → List (Nat × AB) → Prop) (env : Env) (L : List AB) (s : List (Nat × AB)) : Prop := ∃ v, vres T env L rs = some v ∧ v.cl = true ∧ R v s
def KRet (T : Nat → Option TI) (rs : List ResultVar) (R : AV → List (Nat × AB) → Prop) : Exit → Env → List AB → List (Nat × AB) → Prop
  | .normal => VR T rs R
  | .ret => VR T rs R
  | _ => fun _ _ _ => False

section
variable {P : Program} {cx : Ctx} {env : Env} {L : List AB} {s : List (Nat × AB)} {M : Mp} {F U : Nat → Prop} {w : World}

theorem load_cells_rv (hT : TabOK P cx.T) (hS : St M F U L s w) {t : TypeId} {ti : TI} (ht : cx.T t = some ti) {r : Rf} {off : Nat} {cs : List AV} {v : AV} {u : Value} (hu : RV M F w (.ref r off) u)
    (hr : Here L s r (.cells cs)) (hlen : (takeN cs off ti.size).length = ti.size) (hv : ofCells ti.agg (takeN cs off ti.size) = some v) :
    ∃ b val, u = .pointer (some ⟨b, off, none⟩) ∧ (loadVar t ⟨b, off, none⟩).run P w = .ok val w ∧ RV M F w v val := by
  cases hu with
  | ref _ _ b hm =>
    obtain ⟨arr, tt, hb, hsz, hc⟩ := hS.rb r _ b hr hm
    have hget : ∀ j, j < ti.size → ∃ y, cs[off + j]? = some y ∧ (takeN cs off ti.size)[j]? = some y := by
      intro j hj
      have hj' : j < (takeN cs off ti.size).length := by omega
      exact ⟨_, get_takeN (List.getElem?_eq_getElem hj'), List.getElem?_eq_getElem hj'⟩
    have harr : ∀ j, j < ti.size → ∃ u, arr[off + j]? = some u := by
      intro j hj
      obtain ⟨y, h2, _⟩ := hget j hj
      have := (List.getElem?_eq_some_iff.1 h2).1
      exact ⟨_, Array.getElem?_eq_getElem (by omega)⟩
    have hus : ∀ j, ((List.range ti.size).map fun j => (arr[off + j]?).getD Go.undef)[j]? = if j < ti.size then arr[off + j]? else none := by
      intro j
      by_cases hj : j < ti.size
      · obtain ⟨u, hu⟩ := harr j hj
        simp [hj, hu]
      · simp [hj]
    obtain ⟨val, hrun, hv1, hv2⟩ := run_loadVar_cells (P := P) (w := w) (hT := hT) ht ⟨b, off, none⟩ ((List.range ti.size).map fun j => (arr[off + j]?).getD Go.undef) (by simp) (fun j u hu => by
      rw [hus] at hu
      split at hu
      · rw [add_plain]; simp [World.cell?, hb, hu]
      · cases hu)
    refine ⟨b, val, rfl, hrun, RV.ofCells hv hv1 hv2 (by simp [hlen]) (fun j u hu => ?_) (fun j y u hy hu => ?_)⟩
    · rw [hus] at hu
      split at hu
      · rename_i hj
        obtain ⟨y, h2, _⟩ := hget j hj
        exact (hc _ y u h2 hu).1
      · cases hu
    · rw [hus] at hu
      split at hu
      · exact ((hc _ y u (get_takeN hy) hu).2).mono (M.sub_le r) (fun _ h => h) hS.FU (.refl _ _)
      · cases hu

theorem vres1_run (hT : TabOK P cx.T) {a : Act} (hC : CS cx M F U L s w env a) {r : ResultVar} {v : AV} (h : vres1 cx.T env L r = some v) :
    ∃ val, (match r with
      | .tmp t => pure (a.tmps.getD t Go.undef)
      | .cell x t => do loadVar t (← asAddr (a.tmps.getD x Go.undef)) : Sem Value).run P w = .ok val w ∧ RV M F w v val := by
  cases r with
  | tmp t =>
    cases h
    exact ⟨_, rfl, hC.env t⟩
  | cell x t =>
    simp only [vres1] at h
    split at h <;> try cases h
    rename_i ti ht
    split at h <;> try cases h
    rename_i k off hl
    split at h <;> try cases h
    rename_i cs hk
    split at h <;> try cases h
    rename_i hb
    have hx := hC.env x
    rw [hl] at hx
    obtain ⟨b, val, hu, hrun, hrv⟩ := load_cells_rv hT hC.st ht hx (r := .l k) hk (beq_t hb) h
    refine ⟨val, ?_, hrv⟩
    have hu : a.tmps.getD x Go.undef = .pointer (some ⟨b, off, none⟩) := hu
    simp only [hu, asAddr, Sem.run_bind, Sem.run_pure, Result.andThen_ok, hrun]

theorem vresL_run (hT : TabOK P cx.T) {a : Act} (hC : CS cx M F U L s w env a) : ∀ {rs : List ResultVar} {vs : List AV}, vresL cx.T env L rs = some vs →
    ∃ vals, (rs.mapM (fun
      | .tmp t => pure (a.tmps.getD t Go.undef)
      | .cell x t => do loadVar t (← asAddr (a.tmps.getD x Go.undef)) : ResultVar → Sem Value)).run P w = .ok vals w ∧ vals.length = vs.length ∧ ∀ (j : Nat) (x : AV) (v : Value), vs[j]? = some x → vals[j]? = some v → RV M F w x v
  | [], vs, h => by
    simp only [vresL, Option.some.injEq] at h
    subst h
    exact ⟨[], by simp [Sem.run_pure], rfl, fun j x v h => by simp at h⟩
  | r :: rs, vs, h => by
    simp only [vresL] at h
    split at h <;> try cases h
    rename_i v hv
    split at h <;> try cases h
    rename_i vs' hvs
    obtain ⟨val, h1, h2⟩ := vres1_run hT hC hv
    obtain ⟨vals, h3, h4, h5⟩ := vresL_run hT hC hvs
    refine ⟨val :: vals, ?_, by simp [h4], fun j x u hx hu => ?_⟩
    · rw [List.mapM_cons]
      simp only [Sem.run_bind]
      cases r <;> simp only [h1, h3, Result.andThen_ok, Sem.run_pure] at * <;> simp_all [Sem.run_pure]
    · cases j with
      | zero => simp at hx hu; subst hx; subst hu; exact h2
      | succ j => exact h5 j x u (by simpa using hx) (by simpa using hu)

theorem vres_run (hT : TabOK P cx.T) {fn : Func} {a : Act} (hC : CS cx M F U L s w env a) {v : AV} (h : vres cx.T env L fn.results.toList = some v) :
    ∃ val, (results fn a.tmps).run P w = .ok val w ∧ RV M F w v val := by
  have key : ∀ {vs : List AV}, vresL cx.T env L fn.results.toList = some vs → ∃ vals : List Value, (results fn a.tmps).run P w = .ok (if h : vals.toArray.size = 1 then vals.toArray[0] else .tuple vals.toArray) w ∧ vals.length = vs.length ∧ ∀ (j : Nat) (x : AV) (v : Value), vs[j]? = some x → vals[j]? = some v → RV M F w x v := by
    intro vs h
    obtain ⟨vals, h1, h2, h3⟩ := vresL_run hT hC h
    refine ⟨vals, ?_, h2, h3⟩
    unfold results
    rw [← Array.toArray_toList (xs := fn.results)]
    rw [List.mapM_toArray]
    simp only [Sem.run_bind, Sem.run_pure, map_eq_pure_bind]
    erw [h1]
    rfl
  unfold vres at h
  split at h
  · rename_i r hr
    obtain ⟨vals, h1, h2, h3⟩ := key (vs := [v]) (by rw [hr]; simp [vresL, h])
    obtain ⟨u, rfl⟩ : ∃ u, vals = [u] := by
      match vals, h2 with
      | [u], _ => exact ⟨u, rfl⟩
    exact ⟨u, by simpa using h1, h3 0 v u rfl rfl⟩
  · rename_i hr
    split at h <;> try cases h
    rename_i vs hvs
    obtain ⟨vals, h1, h2, h3⟩ := key hvs
    have hne : vals.length ≠ 1 := by
      intro e
      have hl : vs.length = 1 := by omega
      have : fn.results.toList.length = 1 := by
        have key2 : ∀ {rs : List ResultVar} {vs : List AV}, vresL cx.T env L rs = some vs → rs.length = vs.length := by
          intro rs
          induction rs with
          | nil => intro vs h; simp only [vresL, Option.some.injEq] at h; subst h; rfl
          | cons r rs ih =>
            intro vs h
            simp only [vresL] at h
            split at h <;> try cases h
            split at h <;> try cases h
            rename_i h'
            simp [ih h']
        rw [key2 hvs, hl]
      match hm : fn.results.toList, this with
      | [r], _ => exact hr r hm
    refine ⟨.tuple vals.toArray, by rw [h1]; simp [hne], .tup vs vals h2 h3⟩

theorem Contract.of_vc (hT : TabOK P cx.T) {f : Nat} {fn : Func} {c : Code} {args : List AV} {R : AV → List (Nat × AB) → Prop} (hf : P.funcs[f]? = some fn) (hb : fn.body = some c) (hce : Callee P f) (hnt : cx.nt = fn.ntmps) (hle : args.length ≤ fn.ntmps)
    (h : VC P cx c (argEnv 0 args) [] s (KRet cx.T fn.results.toList R)) : Contract P cx.G f args s R := by
  refine ⟨hce, fun g F U w vals hS hG hl hv => calls_of_wp hf hb ?_⟩
  have hC : CS cx ⟨fun _ => none, g⟩ F U [] s w (argEnv 0 args) { tmps := vals.toArray ++ Array.replicate (fn.ntmps - vals.toArray.size) Go.undef, defers := [] } := by
    refine ⟨hS, hG, fun t => ?_, by simp [hnt]; omega, rfl⟩
    rw [look_argEnv, if_pos (Nat.zero_le t)]
    rcases Nat.lt_or_ge t args.length with ht | ht
    · rw [Nat.sub_zero, List.getElem?_eq_getElem ht]
      refine hv t _ _ (List.getElem?_eq_getElem ht) ?_
      unfold slotv
      simp only [Array.getD_eq_getD_getElem?]
      rw [Array.getElem?_append_left (by simp; omega)]
      simp [List.getElem?_eq_getElem (show t < vals.length by omega)]
    · rw [Nat.sub_zero, List.getElem?_eq_none ht]
      exact .undef _
  refine wp_mono (h.h ⟨w, g, F, U, s⟩ _ w ⟨fun _ => none, g⟩ F U hC ⟨fun _ _ h => h, fun _ h => h, fun _ h => h, fun b hb => .inl hb, .refl _ _, fun k b h => by simp at h, fun id ab b h1 h2 h3 => .inr ⟨id, ab, h1, h2, h3⟩, fun id ab h => .inl ⟨ab, h⟩⟩) ?_
  intro e a' w' hq
  obtain ⟨env', L', s', M', F', U', hK, hC', hZ'⟩ := hq
  have fin : VR cx.T fn.results.toList R env' L' s' → a'.defers = [] ∧ ∃ v, (results fn a'.tmps).run P w' = .ok v w' ∧ ∃ v' res s' g' F' U', (Ending.returned v) = .returned v' ∧ R res s' ∧ (∀ id b, g id = some b → g' id = some b) ∧ (∀ id ab, (id, ab) ∈ s' → (∃ ab0, (id, ab0) ∈ s) ∨ g id = none) ∧
      (∀ b, F b → F' b) ∧ (∀ b, U b → U' b) ∧ (∀ b, F' b → F b ∨ w.heap.size ≤ b ∨ LiveG g s b) ∧ Ext U w w' ∧ St ⟨fun _ => none, g'⟩ F' U' [] s' w' ∧ RV ⟨fun _ => none, g'⟩ F' w' res v' := by
    rintro ⟨v, hv, hcl, hR⟩
    obtain ⟨val, h1, h2⟩ := vres_run hT hC' hv
    refine ⟨hC'.defers, val, h1, val, v, s', M'.g, F', U', rfl, hR, hZ'.g, hZ'.ids, hZ'.FF, hZ'.UU, hZ'.Fn, hZ'.ext, ?_, h2.closed hcl⟩
    have hS := hC'.st
    refine ⟨fun r ab b hr hm => ?_, fun r r' a1 a2 b g1 g2 d1 d2 m1 m2 => ?_, fun r ab b g1 d1 m1 => ?_, hS.nd, hS.FU, hS.Ult, fun _ _ => rfl, hS.tot, hS.gdom⟩
    · cases r with
      | l k => simp [Here] at hr
      | g id => exact hS.rb (.g id) ab b hr hm
    · cases r with
      | l k => simp [Here] at g1
      | g id =>
        cases r' with
        | l k => simp [Here] at g2
        | g id' => exact hS.inj (.g id) (.g id') a1 a2 b g1 g2 d1 d2 m1 m2
    · cases r with
      | l k => simp [Here] at g1
      | g id => exact hS.nU (.g id) ab b g1 d1 m1
  cases e with
  | normal => exact fin hK
  | ret => exact fin hK
  | _ => exact hK.elim

/-! ### What the call itself made, and nobody wants -/
def kphi (ks : List Nat) : Rf → Option Rf
  | .g i => match memB i ks with
    | true => some (.g i)
    | false => none
  | .l _ => none
def keepS (ks : List Nat) : List (Nat × AB) → Option (List (Nat × AB))
  | [] => some []
  | (i, ab) :: r => match memB i ks with
    | true => match ab.rn (kphi ks) with
      | some ab => match keepS ks r with
        | some r => some ((i, ab) :: r)
        | none => none
      | none => none
    | false => keepS ks r
def subB : List Nat → List Nat → Bool
  | [], _ => true
  | x :: r, ks => memB x ks && subB r ks
theorem subB_mem : ∀ {l ks : List Nat} {x : Nat}, subB l ks = true → x ∈ l → memB x ks = true
  | [], _, _, _, h => by simp at h
  | y :: r, ks, x, h, hx => by
    simp only [subB, Bool.and_eq_true] at h
    rcases List.mem_cons.1 hx with rfl | hx
    · exact h.1
    · exact subB_mem h.2 hx
theorem keepS_spec {ks : List Nat} : ∀ {s s' : List (Nat × AB)}, keepS ks s = some s' → (s'.map (·.1)).Sublist (s.map (·.1)) ∧ (∀ id ab', (id, ab') ∈ s' → memB id ks = true ∧ ∃ ab, (id, ab) ∈ s ∧ ab.rn (kphi ks) = some ab') ∧ ∀ id ab, (id, ab) ∈ s → memB id ks = true → ∃ ab', (id, ab') ∈ s'
  | [], s', h => by
    simp only [keepS, Option.some.injEq] at h
    subst h
    simp
  | (i, ab) :: r, s', h => by
    simp only [keepS] at h
    split at h
    · rename_i hk
      split at h <;> try cases h
      rename_i ab' hab
      split at h <;> cases h
      rename_i r' hr
      obtain ⟨h1, h2, h3⟩ := keepS_spec hr
      refine ⟨by simpa using h1.cons_cons i, fun id x hx => ?_, fun id x hx hm => ?_⟩
      · rcases List.mem_cons.1 hx with e | hx
        · cases e; exact ⟨hk, ab, by simp, hab⟩
        · obtain ⟨q1, y, q2, q3⟩ := h2 id x hx
          exact ⟨q1, y, List.mem_cons_of_mem _ q2, q3⟩
      · rcases List.mem_cons.1 hx with e | hx
        · cases e; exact ⟨ab', by simp⟩
        · obtain ⟨y, hy⟩ := h3 id x hx hm
          exact ⟨y, List.mem_cons_of_mem _ hy⟩
    · rename_i hk
      obtain ⟨h1, h2, h3⟩ := keepS_spec h
      refine ⟨by simpa using h1.cons i, fun id x hx => ?_, fun id x hx hm => ?_⟩
      · obtain ⟨q1, y, q2, q3⟩ := h2 id x hx
        exact ⟨q1, y, List.mem_cons_of_mem _ q2, q3⟩
      · rcases List.mem_cons.1 hx with e | hx
        · cases e; rw [hk] at hm; cases hm
        · exact h3 id x hx hm
def VRD (T : Nat → Option TI) (rs : List ResultVar) (ids : List Nat) (R : AV → List (Nat × AB) → Prop) (env : Env) (L : List AB) (s : List (Nat × AB)) : Prop := ∃ v, vres T env L rs = some v ∧ ∃ ks, subB ids ks = true ∧ match keepS ks s with
  | some s' => match v.rn (kphi ks) with
    | some v' => R v' s'
    | none => False
  | none => False
def KRetD (T : Nat → Option TI) (rs : List ResultVar) (ids : List Nat) (R : AV → List (Nat × AB) → Prop) : Exit → Env → List AB → List (Nat × AB) → Prop
  | .normal => VRD T rs ids R
  | .ret => VRD T rs ids R
  | _ => fun _ _ _ => False

theorem Contract.of_vcD (hT : TabOK P cx.T) {f : Nat} {fn : Func} {c : Code} {args : List AV} {R : AV → List (Nat × AB) → Prop} (hf : P.funcs[f]? = some fn) (hb : fn.body = some c) (hce : Callee P f) (hnt : cx.nt = fn.ntmps) (hle : args.length ≤ fn.ntmps)
    (h : VC P cx c (argEnv 0 args) [] s (KRetD cx.T fn.results.toList (s.map (·.1)) R)) : Contract P cx.G f args s R := by
  refine ⟨hce, fun g F U w vals hS hG hl hv => calls_of_wp hf hb ?_⟩
  have hC : CS cx ⟨fun _ => none, g⟩ F U [] s w (argEnv 0 args) { tmps := vals.toArray ++ Array.replicate (fn.ntmps - vals.toArray.size) Go.undef, defers := [] } := by
    refine ⟨hS, hG, fun t => ?_, by simp [hnt]; omega, rfl⟩
    rw [look_argEnv, if_pos (Nat.zero_le t)]
    rcases Nat.lt_or_ge t args.length with ht | ht
    · rw [Nat.sub_zero, List.getElem?_eq_getElem ht]
      refine hv t _ _ (List.getElem?_eq_getElem ht) ?_
      unfold slotv
      simp only [Array.getD_eq_getD_getElem?]
      rw [Array.getElem?_append_left (by simp; omega)]
      simp [List.getElem?_eq_getElem (show t < vals.length by omega)]
    · rw [Nat.sub_zero, List.getElem?_eq_none ht]
      exact .undef _
  refine wp_mono (h.h ⟨w, g, F, U, s⟩ _ w ⟨fun _ => none, g⟩ F U hC ⟨fun _ _ h => h, fun _ h => h, fun _ h => h, fun b hb => .inl hb, .refl _ _, fun k b h => by simp at h, fun id ab b h1 h2 h3 => .inr ⟨id, ab, h1, h2, h3⟩, fun id ab h => .inl ⟨ab, h⟩⟩) ?_
  intro e a' w' hq
  obtain ⟨env', L', s', M', F', U', hK, hC', hZ'⟩ := hq
  have fin : VRD cx.T fn.results.toList (s.map (·.1)) R env' L' s' → a'.defers = [] ∧ ∃ v, (results fn a'.tmps).run P w' = .ok v w' ∧ ∃ v' res s' g' F' U', (Ending.returned v) = .returned v' ∧ R res s' ∧ (∀ id b, g id = some b → g' id = some b) ∧ (∀ id ab, (id, ab) ∈ s' → (∃ ab0, (id, ab0) ∈ s) ∨ g id = none) ∧
      (∀ b, F b → F' b) ∧ (∀ b, U b → U' b) ∧ (∀ b, F' b → F b ∨ w.heap.size ≤ b ∨ LiveG g s b) ∧ Ext U w w' ∧ St ⟨fun _ => none, g'⟩ F' U' [] s' w' ∧ RV ⟨fun _ => none, g'⟩ F' w' res v' := by
    rintro ⟨v, hvv, ks, hsub, hR⟩
    split at hR <;> try exact hR.elim
    rename_i s2 hs2
    split at hR <;> try exact hR.elim
    rename_i v2 hv2
    obtain ⟨val, h1, h2⟩ := vres_run hT hC' hvv
    obtain ⟨k1, k2, k3⟩ := keepS_spec hs2
    have hS' := hC'.st
    have hg2 : ∀ id, memB id ks = true → (fun id => match memB id ks with | true => M'.g id | false => none) id = M'.g id := fun id h => by simp only [h]
    have hvia : Mp.Via (kphi ks) M' ⟨fun _ => none, fun id => match memB id ks with | true => M'.g id | false => none⟩ := fun r r' b hr hm => by
      cases r with
      | l k => cases hr
      | g id =>
        simp only [kphi] at hr
        split at hr <;> cases hr
        rename_i hk
        simp only [Mp.at_, hk]
        exact hm
    have hviag : Mp.Via (kphi ks) M'.glo ⟨fun _ => none, fun id => match memB id ks with | true => M'.g id | false => none⟩ := fun r r' b hr hm => hvia r r' b hr (M'.glo_le r b hm)
    refine ⟨hC'.defers, val, h1, val, v2, s2, fun id => match memB id ks with | true => M'.g id | false => none, F', U', rfl, hR, fun id b hb => ?_, fun id ab hab => ?_, hZ'.FF, hZ'.UU, hZ'.Fn, hZ'.ext, ?_, h2.rn hvia hv2⟩
    · have hin : id ∈ s.map (·.1) := Classical.byContradiction fun hn => by
        have : g id = none := hS.gdom id (fun ab hab => hn (List.mem_map.2 ⟨_, hab, rfl⟩))
        rw [this] at hb
        cases hb
      simp only [subB_mem hsub hin]
      exact hZ'.g id b hb
    · obtain ⟨_, ab0, q, _⟩ := k2 id ab hab
      exact hZ'.ids id ab0 q
    · refine ⟨fun r ab b hr hm => ?_, fun r r' a1 a2 b g1 g2 d1 d2 m1 m2 => ?_, fun r ab b g1 d1 m1 => ?_, hS'.nd.sublist k1, hS'.FU, hS'.Ult, fun _ _ => rfl, fun id ab hab => ?_, fun id hid => ?_⟩
      · cases r with
        | l k => simp [Here] at hr
        | g id =>
          obtain ⟨q1, ab0, q2, q3⟩ := k2 id ab hr
          simp only [Mp.at_, q1] at hm
          exact (hS'.rb (.g id) ab0 b q2 hm).rn hviag q3
      · cases r with
        | l k => simp [Here] at g1
        | g id =>
          cases r' with
          | l k => simp [Here] at g2
          | g id' =>
            obtain ⟨q1, b1, q2, q3⟩ := k2 id a1 g1
            obtain ⟨p1, b2, p2, p3⟩ := k2 id' a2 g2
            simp only [Mp.at_, q1] at m1
            simp only [Mp.at_, p1] at m2
            exact hS'.inj (.g id) (.g id') b1 b2 b q2 p2 (fun e => d1 ((AB.rn_dead q3).2 e)) (fun e => d2 ((AB.rn_dead p3).2 e)) m1 m2
      · cases r with
        | l k => simp [Here] at g1
        | g id =>
          obtain ⟨q1, b1, q2, q3⟩ := k2 id ab g1
          simp only [Mp.at_, q1] at m1
          exact hS'.nU (.g id) b1 b q2 (fun e => d1 ((AB.rn_dead q3).2 e)) m1
      · obtain ⟨q1, b1, q2, q3⟩ := k2 id ab hab
        obtain ⟨b, hb⟩ := hS'.tot id b1 q2
        exact ⟨b, by simp only [q1]; exact hb⟩
      · cases hk : memB id ks with
        | false => simp only [hk]
        | true =>
          simp only [hk]
          refine hS'.gdom id fun ab hab => ?_
          obtain ⟨ab', hab'⟩ := k3 id ab hab hk
          exact hid ab' hab'
  cases e with
  | normal => exact fin hK
  | ret => exact fin hK
  | _ => exact hK.elim
end
end Go.Pv
/- The same world told otherwise: places that are wanted no more are dropped, others named anew. -/
namespace Go.Pv
open Go.RowKit

/-- A local place's new name. -/
def lsel (σ : List Nat) : Rf → Option Rf
  | .g i => some (.g i)
  | .l j => match rnK σ j 0 with
    | some k => some (.l k)
    | none => none
/-- What stands behind the new names. -/
def Mp.gather (M : Mp) (σ : List Nat) : Mp := ⟨fun k => match σ[k]? with
  | some j => M.l j
  | none => none, M.g⟩
theorem via_gather (M : Mp) (σ : List Nat) : Mp.Via (lsel σ) M (M.gather σ) := fun r r' b h hm => by
  cases r with
  | g i => cases h; exact hm
  | l j =>
    simp only [lsel] at h
    split at h <;> cases h
    rename_i k hk
    obtain ⟨i, h1, h2⟩ := rnK_some hk
    simp only [Nat.zero_add] at h1
    subst h1
    simp only [Mp.at_, Mp.gather, h2]
    exact hm
def gatherL (σ : List Nat) (L : List AB) : List Nat → Option (List AB)
  | [] => some []
  | j :: r => match L[j]? with
    | some ab => match ab.rn (lsel σ) with
      | some ab => match gatherL σ L r with
        | some r => some (ab :: r)
        | none => none
      | none => none
    | none => none
theorem gatherL_get {σ : List Nat} {L : List AB} : ∀ {τ : List Nat} {L' : List AB}, gatherL σ L τ = some L' → L'.length = τ.length ∧ ∀ (k : Nat) (ab' : AB), L'[k]? = some ab' → ∃ j ab, τ[k]? = some j ∧ L[j]? = some ab ∧ ab.rn (lsel σ) = some ab'
  | [], L', h => by
    simp only [gatherL, Option.some.injEq] at h
    subst h
    exact ⟨rfl, fun k ab h => by simp at h⟩
  | j :: r, L', h => by
    simp only [gatherL] at h
    split at h <;> try cases h
    rename_i ab hab
    split at h <;> try cases h
    rename_i ab' hab'
    split at h <;> cases h
    rename_i r' hr
    obtain ⟨h1, h2⟩ := gatherL_get hr
    refine ⟨by simp [h1], fun k z hz => ?_⟩
    cases k with
    | zero => simp at hz; subst hz; exact ⟨j, ab, rfl, hab, hab'⟩
    | succ k =>
      obtain ⟨j', ab2, q1, q2, q3⟩ := h2 k z (by simpa using hz)
      exact ⟨j', ab2, by simpa using q1, q2, q3⟩
theorem St.gather {M : Mp} {F U : Nat → Prop} {L L' : List AB} {s : List (Nat × AB)} {w : World} {σ : List Nat} (hS : St M F U L s w) (hL : gatherL σ L σ = some L') (hn : nodupB σ = true) : St (M.gather σ) F U L' s w := by
  obtain ⟨hlen, hget⟩ := gatherL_get hL
  have hnd := nodupB_spec hn
  have back : ∀ r ab' b, Here L' s r ab' → (M.gather σ).at_ r = some b → ∃ r0 ab, Here L s r0 ab ∧ M.at_ r0 = some b ∧ (ab' ≠ .dead → ab ≠ .dead) ∧ ((∃ k j, r = .l k ∧ r0 = .l j ∧ σ[k]? = some j ∧ ab.rn (lsel σ) = some ab') ∨ (∃ id, r = .g id ∧ r0 = .g id ∧ ab = ab')) := by
    intro r ab' b hr hm
    cases r with
    | g id => exact ⟨.g id, ab', hr, hm, fun h => h, .inr ⟨id, rfl, rfl, rfl⟩⟩
    | l k =>
      obtain ⟨j, ab, q1, q2, q3⟩ := hget k ab' hr
      refine ⟨.l j, ab, q2, ?_, fun e h => e ((AB.rn_dead q3).2 h), .inl ⟨k, j, rfl, rfl, q1, q3⟩⟩
      simp only [Mp.at_, Mp.gather, q1] at hm
      exact hm
  refine ⟨fun r ab' b hr hm => ?_, fun r r' a1 a2 b h1 h2 d1 d2 m1 m2 => ?_, fun r ab' b hr hd hm => ?_, hS.nd, hS.FU, hS.Ult, fun k hk => ?_, hS.tot, hS.gdom⟩
  · obtain ⟨r0, ab, h1, h2, _, ⟨k, j, rfl, rfl, h5, h6⟩ | ⟨id, rfl, rfl, rfl⟩⟩ := back r ab' b hr hm
    · exact (hS.rb _ ab b h1 h2).rn (via_gather M σ) h6
    · exact hS.rb _ ab b h1 h2
  · obtain ⟨r0, b1, q1, q2, q3, q4⟩ := back r a1 b h1 m1
    obtain ⟨r0', b2, p1, p2, p3, p4⟩ := back r' a2 b h2 m2
    have := hS.inj r0 r0' b1 b2 b q1 p1 (q3 d1) (p3 d2) q2 p2
    subst this
    rcases q4 with ⟨k, j, rfl, rfl, h5, _⟩ | ⟨id, rfl, rfl, _⟩ <;> rcases p4 with ⟨k', j', rfl, e, h5', _⟩ | ⟨id', rfl, e, _⟩ <;> cases e
    · have hk := (List.getElem?_eq_some_iff.1 h5).1
      have := (List.getElem?_inj hk hnd).1 (h5.trans h5'.symm)
      rw [this]
    · rfl
  · obtain ⟨r0, ab, q1, q2, q3, _⟩ := back r ab' b hr hm
    exact hS.nU r0 ab b q1 (q3 hd) q2
  · simp only [Mp.gather]
    rw [List.getElem?_eq_none (by omega)]

/-- The slots that are told on. -/
def tidy (σ : List Nat) (env : Env) : List Nat → Env
  | [] => []
  | t :: r => (t, match (look env t).rn (lsel σ) with
    | some v => v
    | none => .undef) :: tidy σ env r
theorem tidy_rv {M : Mp} {F : Nat → Prop} {w : World} {σ : List Nat} {env : Env} {v : Nat → Value} (h : ∀ t, RV M F w (look env t) (v t)) : ∀ (ts : List Nat) (t : Nat), RV (M.gather σ) F w (look (tidy σ env ts) t) (v t)
  | [], t => .undef _
  | x :: r, t => by
    simp only [tidy, look]
    split
    · rename_i hb
      have := beq_t hb
      subst this
      split
      · rename_i y hy; exact (h x).rn (via_gather M σ) hy
      · exact .undef _
    · exact tidy_rv h r t

theorem Ghost.gather {cx : Ctx} {env : Env} {L L' : List AB} {s : List (Nat × AB)} (σ slots : List Nat) (hL : gatherL σ L σ = some L') (hn : nodupB σ = true) : Ghost cx env L s (tidy σ env slots) L' s := by
  intro z a w M F U hC hZ
  refine ⟨M.gather σ, F, U, ⟨hC.st.gather hL hn, hC.gl, tidy_rv hC.env slots, hC.size, hC.defers⟩, ⟨hZ.g, hZ.FF, hZ.UU, hZ.Fn, hZ.ext, fun k b hb => ?_, hZ.lg, hZ.ids⟩⟩
  simp only [Mp.gather] at hb
  split at hb
  · exact hZ.ll _ b hb
  · cases hb

theorem VC.rounds {P : Program} {cx : Ctx} {c : Code} {env : Env} {L : List AB} {s : List (Nat × AB)} {K : Exit → Env → List AB → List (Nat × AB) → Prop} (I : Nat → Env → List AB → List (Nat × AB) → Prop)
    (h0 : ∃ e2 L2 s2, Ghost cx env L s e2 L2 s2 ∧ ∃ n, I n e2 L2 s2)
    (step : ∀ n env L s, I n env L s → VC P cx c env L s (KThen (fun env' L' s' => ∃ e2 L2 s2, Ghost cx env' L' s' e2 L2 s2 ∧ ∃ m, m < n ∧ I m e2 L2 s2) K)) : VC P cx (.loop c) env L s K := by
  obtain ⟨e2, L2, s2, hg, n, hI⟩ := h0
  refine VC.ghost hg (VC.loop I hI fun n env L s hI => (step n env L s hI).gpost fun e env' L' s' h => ?_)
  cases e with
  | normal => exact h
  | _ => exact ⟨_, _, _, .refl, h⟩
end Go.Pv
/- The telling of code in which every object bears a name: between regions nothing is local. -/
namespace Go.Pv
open Go.RowKit

section
variable {P : Program} {cx : Ctx} {env : Env} {L : List AB} {s s' : List (Nat × AB)} {M M' : Mp} {F U : Nat → Prop} {w : World} {a : Act} {z : Z}

/-- The same memory, its places named anew. -/
theorem St.recast (hS : St M F U L s w) {f : Nat → Rf} (hl : ∀ k, M'.l k = none) (hnd : (s'.map (·.1)).Nodup)
    (src : ∀ id ab', (id, ab') ∈ s' → ∃ ab b, Here L s (f id) ab ∧ (RB (M.sub (f id)) F w b ab → RB M'.glo F w b ab') ∧ (ab' ≠ .dead → ab ≠ .dead) ∧ M.at_ (f id) = some b ∧ M'.g id = some b)
    (inj : ∀ id id', f id = f id' → id ∈ s'.map (·.1) → id' ∈ s'.map (·.1) → id = id') (gdom : ∀ id, (∀ ab, (id, ab) ∉ s') → M'.g id = none) : St M' F U [] s' w := by
  have hmem : ∀ id ab, (id, ab) ∈ s' → id ∈ s'.map (·.1) := fun id ab h => List.mem_map.2 ⟨_, h, rfl⟩
  refine ⟨fun r ab b hr hm => ?_, fun r r' a1 a2 b h1 h2 d1 d2 m1 m2 => ?_, fun r ab b hr hd hm => ?_, hnd, hS.FU, hS.Ult, fun k _ => hl k, fun id ab h => ?_, gdom⟩
  · cases r with
    | l k => simp [Here] at hr
    | g id =>
      obtain ⟨ab0, b0, q1, q2, q5, q3, q4⟩ := src id ab hr
      simp only [Mp.at_, q4, Option.some.injEq] at hm
      subst hm
      exact q2 (hS.rb _ _ _ q1 q3)
  · cases r with
    | l k => simp [Here] at h1
    | g id =>
      cases r' with
      | l k => simp [Here] at h2
      | g id' =>
        obtain ⟨b1, c1, q1, q2, q5, q3, q4⟩ := src id a1 h1
        obtain ⟨b2, c2, p1, p2, p5, p3, p4⟩ := src id' a2 h2
        simp only [Mp.at_, q4, Option.some.injEq] at m1
        simp only [Mp.at_, p4, Option.some.injEq] at m2
        subst m1
        subst m2
        have := hS.inj _ _ b1 b2 _ q1 p1 (q5 d1) (p5 d2) q3 p3
        rw [inj id id' this (hmem _ _ h1) (hmem _ _ h2)]
  · cases r with
    | l k => simp [Here] at hr
    | g id =>
      obtain ⟨b1, c1, q1, q2, q5, q3, q4⟩ := src id ab hr
      simp only [Mp.at_, q4, Option.some.injEq] at hm
      subst hm
      exact hS.nU _ b1 _ q1 (q5 hd) q3
  · obtain ⟨_, b1, _, _, _, _, q4⟩ := src id ab h
    exact ⟨b1, q4⟩
theorem St.rb_rn (hS : St M F U L s w) {φ : Rf → Option Rf} (hφ : Mp.Via φ M M'.glo) {r : Rf} {ab ab' : AB} (h : ab.rn φ = some ab') (b : Nat) : RB (M.sub r) F w b ab → RB M'.glo F w b ab' := fun hb =>
  (hb.mono (M' := M) (M.sub_le _) (fun _ h => h) hS.FU (.refl _ _) (fun _ => rfl)).rn hφ h

/-- Slots, their places named anew. -/
def mapE (φ : Rf → Option Rf) : Env → Env
  | [] => []
  | (t, v) :: r => (t, match v.rn φ with
    | some v => v
    | none => .undef) :: mapE φ r
theorem mapE_rv {φ : Rf → Option Rf} (hφ : Mp.Via φ M M') {v : Nat → Value} : ∀ {env : Env}, (∀ t, RV M F w (look env t) (v t)) → ∀ t, RV M' F w (look (mapE φ env) t) (v t) := by
  have key : ∀ {env : Env} {t : Nat} {u : Value}, RV M F w (look env t) u → RV M' F w (look (mapE φ env) t) u := by
    intro env
    induction env with
    | nil => intro t u _; exact .undef _
    | cons x r ih =>
      obtain ⟨i, y⟩ := x
      intro t u h
      simp only [mapE, look] at h ⊢
      split
      · rename_i hb
        rw [hb] at h
        split
        · rename_i y' hy; exact h.rn hφ hy
        · exact .undef _
      · rename_i hb
        rw [hb] at h
        exact ih h
  exact fun {_} h t => key (h t)

/-- Told of are the first n names alone. -/
def ToldN (n : Nat) (z : Z) : Prop := ∀ id, n ≤ id → z.g0 id = none
def QV (cx : Ctx) (z : Z) (K : Exit → Env → List (Nat × AB) → Prop) : Exit → Act → World → Prop := fun e a w => ∃ env s M F U, K e env s ∧ CS cx M F U [] s w env a ∧ Sin z M F U s w
structure V (P : Program) (cx : Ctx) (n : Nat) (c : Code) (env : Env) (s : List (Nat × AB)) (K : Exit → Env → List (Nat × AB) → Prop) : Prop where
  h : ∀ (z : Z) (a : Act) (w : World) (M : Mp) (F U : Nat → Prop), ToldN n z → CS cx M F U [] s w env a → Sin z M F U s w → c.wp P (QV cx z K) a w
/-- The same world, told otherwise. -/
def GV (cx : Ctx) (n : Nat) (env : Env) (L : List AB) (s : List (Nat × AB)) (env' : Env) (s' : List (Nat × AB)) : Prop :=
  ∀ (z : Z) (a : Act) (w : World) (M : Mp) (F U : Nat → Prop), ToldN n z → CS cx M F U L s w env a → Sin z M F U s w → ∃ M' F' U', CS cx M' F' U' [] s' w env' a ∧ Sin z M' F' U' s' w
theorem GV.refl {n : Nat} : GV cx n env [] s env s := fun _ _ _ M F U _ h1 h2 => ⟨M, F, U, h1, h2⟩
theorem GV.trans {n : Nat} {e1 e2 e3 : Env} {s1 s2 s3 : List (Nat × AB)} (h : GV cx n e1 L s1 e2 s2) (k : GV cx n e2 [] s2 e3 s3) : GV cx n e1 L s1 e3 s3 := fun z a w M F U h0 h1 h2 => by
  obtain ⟨M', F', U', h3, h4⟩ := h z a w M F U h0 h1 h2
  exact k z a w M' F' U' h0 h3 h4

variable {n : Nat} {c x y : Code} {K K' : Exit → Env → List (Nat × AB) → Prop}
theorem QV.mono {e : Exit} (h : QV cx z K e a w) (hK : ∀ env s, K e env s → K' e env s) : QV cx z K' e a w := by
  obtain ⟨env, s, M, F, U, h1, h2⟩ := h
  exact ⟨env, s, M, F, U, hK _ _ h1, h2⟩
theorem V.mono (h : V P cx n c env s K) (hK : ∀ e env s, K e env s → K' e env s) : V P cx n c env s K' :=
  .mk fun z a w M F U h0 hC hZ => wp_mono (h.h z a w M F U h0 hC hZ) fun _ _ _ hq => hq.mono (hK _)
theorem V.skip (h : K .normal env s) : V P cx n .skip env s K := .mk fun _ _ _ M F U _ hC hZ => wp_skip ⟨env, s, M, F, U, h, hC, hZ⟩
theorem V.label {l : Nat} (h : K .normal env s) : V P cx n (.label l) env s K := .mk fun _ _ _ M F U _ hC hZ => wp_label ⟨env, s, M, F, U, h, hC, hZ⟩
theorem V.exit {id : Nat} (h : K (.exit id) env s) : V P cx n (.exit id) env s K := .mk fun _ _ _ M F U _ hC hZ => wp_exit ⟨env, s, M, F, U, h, hC, hZ⟩
theorem V.ret (h : K .ret env s) : V P cx n .ret env s K := .mk fun _ _ _ M F U _ hC hZ => wp_ret ⟨env, s, M, F, U, h, hC, hZ⟩
def KT (J : Env → List (Nat × AB) → Prop) (K : Exit → Env → List (Nat × AB) → Prop) : Exit → Env → List (Nat × AB) → Prop
  | .normal => J
  | e => K e
theorem V.seq (h : V P cx n x env s (KT (fun env s => V P cx n y env s K) K)) : V P cx n (.seq x y) env s K := .mk fun z a w M F U h0 hC hZ => wp_seq (wp_mono (h.h z a w M F U h0 hC hZ) fun e a w hq => by
  obtain ⟨env, s, M, F, U, h1, h2, h3⟩ := hq
  cases e with
  | normal => exact h1.h z a w M F U h0 h2 h3
  | _ => exact ⟨env, s, M, F, U, h1, h2, h3⟩)
def KB (id : Nat) (K : Exit → Env → List (Nat × AB) → Prop) : Exit → Env → List (Nat × AB) → Prop
  | .exit id' => match Nat.beq id' id with
    | true => K .normal
    | false => K (.exit id')
  | e => K e
theorem V.block {id : Nat} (h : V P cx n c env s (KB id K)) : V P cx n (.block id c) env s K := .mk fun z a w M F U h0 hC hZ => wp_block (wp_mono (h.h z a w M F U h0 hC hZ) fun e a w hq => by
  obtain ⟨env, s, M, F, U, h1, h2⟩ := hq
  cases e with
  | exit id' =>
    simp only [Exit.inBlock]
    simp only [KB] at h1
    cases hb : Nat.beq id' id with
    | true =>
      rw [hb] at h1
      rw [if_pos (beq_t hb)]
      exact ⟨env, s, M, F, U, h1, h2⟩
    | false =>
      rw [hb] at h1
      rw [if_neg (fun h => by subst h; simp at hb)]
      exact ⟨env, s, M, F, U, h1, h2⟩
  | _ => exact ⟨env, s, M, F, U, h1, h2⟩)
def bcase (b : Bool) (X Y : Prop) : Prop := match b with
  | true => X
  | false => Y
theorem bcase_intro {b : Bool} {X Y : Prop} (h1 : b = true → X) (h2 : b = false → Y) : bcase b X Y := by
  cases b with
  | true => exact h1 rfl
  | false => exact h2 rfl
theorem V.cond {c : Operand} (h : match rho cx.G env [] c with
    | .d (.bool b) => bcase b (V P cx n x env s K) (V P cx n y env s K)
    | _ => False) : V P cx n (.cond c x y) env s K := by
  constructor
  intro z a w M F U h0 hC hZ
  split at h
  · rename_i b hb
    have hx := hC.operand c
    rw [hb] at hx
    refine wp_cond_split hx.bool_inv (fun e => ?_) (fun e => ?_)
    · subst e; exact V.h h z a w M F U h0 hC hZ
    · subst e; exact V.h h z a w M F U h0 hC hZ
  · exact h.elim
theorem V.loop (I : Nat → Env → List (Nat × AB) → Prop) {m : Nat} (h0 : I m env s)
    (step : ∀ m env s, I m env s → V P cx n c env s (KT (fun env' s' => ∃ k, k < m ∧ I k env' s') K)) : V P cx n (.loop c) env s K := by
  constructor
  intro z a w M F U hN hC hZ
  have key : ∀ (N m : Nat) (env : Env) (s : List (Nat × AB)) (a : Act) (w : World) (M : Mp) (F U : Nat → Prop), m < N → I m env s → CS cx M F U [] s w env a → Sin z M F U s w → Code.rounds P c (QV cx z K) N a w := by
    intro N
    induction N with
    | zero => intro m _ _ _ _ _ _ _ h; omega
    | succ N ih =>
      intro m env s a w M F U hn hI hC hZ
      rw [rounds_succ]
      refine wp_mono ((step m env s hI).h z a w M F U hN hC hZ) fun e a w hq => ?_
      obtain ⟨env, s, M, F, U, h1, h2, h3⟩ := hq
      cases e with
      | normal =>
        obtain ⟨k, hk, hI⟩ := h1
        exact ih k env s a w M F U (by omega) hI h2 h3
      | _ => exact ⟨env, s, M, F, U, h1, h2, h3⟩
  exact wp_loop_rounds (m + 1) (key (m + 1) m env s a w M F U (by omega) h0 hC hZ)
theorem V.ghost {env' : Env} {s' : List (Nat × AB)} (hg : GV cx n env [] s env' s') (h : V P cx n c env' s' K) : V P cx n c env s K := .mk fun z a w M F U h0 h1 h2 => by
  obtain ⟨M', F', U', h3, h4⟩ := hg z a w M F U h0 h1 h2
  exact h.h z a w M' F' U' h0 h3 h4
theorem V.gpost (h : V P cx n c env s K) (hK : ∀ e env s, K e env s → ∃ env' s', GV cx n env [] s env' s' ∧ K' e env' s') : V P cx n c env s K' := .mk fun z a w M F U h0 hC hZ => wp_mono (h.h z a w M F U h0 hC hZ) fun e a w hq => by
  obtain ⟨env, s, M, F, U, h1, h2, h3⟩ := hq
  obtain ⟨env', s', hg, hk⟩ := hK _ _ _ h1
  obtain ⟨M', F', U', h4, h5⟩ := hg z a w M F U h0 h2 h3
  exact ⟨env', s', M', F', U', hk, h4, h5⟩
/-- In rounds, with what is told made ready ahead of each. -/
theorem V.rounds (I : Nat → Env → List (Nat × AB) → Prop) (h0 : ∃ e2 s2, GV cx n env [] s e2 s2 ∧ ∃ m, I m e2 s2)
    (step : ∀ m env s, I m env s → V P cx n c env s (KT (fun env' s' => ∃ e2 s2, GV cx n env' [] s' e2 s2 ∧ ∃ k, k < m ∧ I k e2 s2) K)) : V P cx n (.loop c) env s K := by
  obtain ⟨e2, s2, hg, m, hI⟩ := h0
  refine V.ghost hg (V.loop I hI fun m env s hI => (step m env s hI).gpost fun e env' s' h => ?_)
  cases e with
  | normal => exact h
  | _ => exact ⟨_, _, .refl, h⟩
/-- Round by round. -/
def vrounds (P : Program) (cx : Ctx) (n : Nat) (c : Code) (K : Exit → Env → List (Nat × AB) → Prop) : Nat → Env → List (Nat × AB) → Prop
  | 0, _, _ => False
  | k + 1, env, s => V P cx n c env s (KT (fun env s => vrounds P cx n c K k env s) K)
theorem V.unroll (k : Nat) (h : vrounds P cx n c K k env s) : V P cx n (.loop c) env s K := by
  constructor
  intro z a w M F U hN hC hZ
  have key : ∀ (k : Nat) (env : Env) (s : List (Nat × AB)) (a : Act) (w : World) (M : Mp) (F U : Nat → Prop), vrounds P cx n c K k env s → CS cx M F U [] s w env a → Sin z M F U s w → Code.rounds P c (QV cx z K) k a w := by
    intro k
    induction k with
    | zero => intro _ _ _ _ _ _ _ h; exact h.elim
    | succ k ih =>
      intro env s a w M F U h hC hZ
      rw [rounds_succ]
      refine wp_mono (V.h h z a w M F U hN hC hZ) fun e a w hq => ?_
      obtain ⟨env, s, M, F, U, h1, h2, h3⟩ := hq
      cases e with
      | normal => exact ih env s a w M F U h1 h2 h3
      | _ => exact ⟨env, s, M, F, U, h1, h2, h3⟩
  exact wp_loop_rounds k (key k env s a w M F U h hC hZ)

/-! ### Objects named anew, others dropped -/
def gsel (σ : List Nat) : Rf → Option Rf
  | .l _ => none
  | .g j => match rnK σ j 0 with
    | some k => some (.g k)
    | none => none
def gatherS (σ : List Nat) (s : List (Nat × AB)) : List Nat → Nat → Option (List (Nat × AB))
  | [], _ => some []
  | j :: r, k => match sfind s j with
    | some ab => match ab.rn (gsel σ) with
      | some ab => match gatherS σ s r (k + 1) with
        | some l => some ((k, ab) :: l)
        | none => none
      | none => none
    | none => none
theorem gatherS_get {σ : List Nat} {s : List (Nat × AB)} : ∀ {τ : List Nat} {k : Nat} {s0 : List (Nat × AB)}, gatherS σ s τ k = some s0 → s0.map (·.1) = List.range' k τ.length ∧ ∀ m ab', (m, ab') ∈ s0 → ∃ j id ab, m = k + j ∧ τ[j]? = some id ∧ (id, ab) ∈ s ∧ ab.rn (gsel σ) = some ab'
  | [], k, s0, h => by simp only [gatherS, Option.some.injEq] at h; subst h; simp
  | id :: r, k, s0, h => by
    simp only [gatherS] at h
    split at h <;> try cases h
    rename_i ab hab
    split at h <;> try cases h
    rename_i ab' hab'
    split at h <;> cases h
    rename_i l hl
    obtain ⟨h1, h2⟩ := gatherS_get hl
    refine ⟨by simp [h1, List.range'_succ], fun m x hx => ?_⟩
    rcases List.mem_cons.1 hx with e | hx
    · cases e; exact ⟨0, id, ab, rfl, rfl, sfind_mem hab, hab'⟩
    · obtain ⟨j, id', ab2, q1, q2, q3, q4⟩ := h2 m x hx
      exact ⟨j + 1, id', ab2, by omega, by simpa using q2, q3, q4⟩
/-- The first names stay. -/
def uptoB : Nat → Nat → List Nat → Bool
  | 0, _, _ => true
  | _ + 1, _, [] => false
  | n + 1, k, x :: r => Nat.beq x k && uptoB n (k + 1) r
theorem uptoB_get : ∀ {n k : Nat} {σ : List Nat}, uptoB n k σ = true → ∀ i, i < n → σ[i]? = some (k + i)
  | 0, _, _, _, i, hi => by omega
  | _ + 1, _, [], h, _, _ => by simp [uptoB] at h
  | n + 1, k, x :: r, h, i, hi => by
    simp only [uptoB, Bool.and_eq_true] at h
    have := beq_t h.1
    cases i with
    | zero => simp [this]
    | succ i =>
      have := uptoB_get h.2 i (by omega)
      simp only [List.getElem?_cons_succ, this]
      congr 1; omega
def Mp.gath (M : Mp) (σ : List Nat) : Mp := ⟨fun _ => none, fun k => (σ[k]?).bind M.g⟩
theorem via_gsel (M : Mp) (σ : List Nat) : Mp.Via (gsel σ) M (M.gath σ).glo := fun r r' b h hm => by
  cases r with
  | l k => cases h
  | g j =>
    simp only [gsel] at h
    split at h <;> cases h
    rename_i k hk
    obtain ⟨i, h1, h2⟩ := rnK_some hk
    simp only [Nat.zero_add] at h1
    subst h1
    simp only [Mp.at_, Mp.glo, Mp.gath, h2]
    exact hm
theorem via_gsel' (M : Mp) (σ : List Nat) : Mp.Via (gsel σ) M (M.gath σ) := fun r r' b h hm => (M.gath σ).glo_le r' b (via_gsel M σ r r' b h hm)
theorem GV.gather_M {s' : List (Nat × AB)} (σ : List Nat) (hs : gatherS σ s σ 0 = some s') (hn : nodupB σ = true) (hup : uptoB n 0 σ = true) (z : Z) (a : Act) (w : World) (M : Mp) (F U : Nat → Prop) (h0 : ToldN n z) (hC : CS cx M F U [] s w env a) (hZ : Sin z M F U s w) :
    ∃ M' F' U', (CS cx M' F' U' [] s' w (mapE (gsel σ) env) a ∧ M' = M.gath σ ∧ F' = F ∧ U' = U) ∧ Sin z M' F' U' s' w := by
  obtain ⟨hids, hget⟩ := gatherS_get hs
  have hnd := nodupB_spec hn
  have hup := uptoB_get hup
  have hidlt : ∀ id, id ∈ s'.map (·.1) ↔ id < σ.length := fun id => by rw [hids]; simp [List.mem_range']
  have hσ : ∀ id ab, (id, ab) ∈ s' → ∃ j ab0, σ[id]? = some j ∧ (j, ab0) ∈ s ∧ ab0.rn (gsel σ) = some ab := fun id ab h => by
    obtain ⟨j, id', ab0, q1, q2, q3, q4⟩ := hget id ab h
    simp only [Nat.zero_add] at q1
    subst q1
    exact ⟨id', ab0, q2, q3, q4⟩
  have hst : St (M.gath σ) F U [] s' w := hC.st.recast (f := fun id => .g ((σ[id]?).getD 0)) (fun _ => rfl) (by rw [hids]; exact List.nodup_range') (fun id ab h => by
      obtain ⟨j, ab0, q1, q2, q3⟩ := hσ id ab h
      obtain ⟨b, hb⟩ := hC.st.tot j ab0 q2
      exact ⟨ab0, b, by simpa [q1, Here] using q2, hC.st.rb_rn (via_gsel M σ) q3 b, fun e h => e ((AB.rn_dead q3).2 h), by simpa [q1, Mp.at_] using hb, by simpa [Mp.gath, q1] using hb⟩) (fun id id' e h1 h2 => by
      rw [hidlt] at h1 h2
      simp only [List.getElem?_eq_getElem h1, List.getElem?_eq_getElem h2, Option.getD_some, Rf.g.injEq] at e
      exact (List.getElem?_inj h1 hnd).1 (by rw [List.getElem?_eq_getElem h1, List.getElem?_eq_getElem h2, e])) (fun id h => by
      simp only [Mp.gath]
      have : ¬ id < σ.length := fun hlt => by
        have := (hidlt id).2 hlt
        obtain ⟨⟨i, ab⟩, q1, q2⟩ := List.mem_map.1 this
        simp only at q2
        subst q2
        exact h ab q1
      rw [List.getElem?_eq_none (by omega)]
      rfl)
  refine ⟨M.gath σ, F, U, ⟨⟨hst, hC.gl, mapE_rv (via_gsel' M σ) hC.env, hC.size, hC.defers⟩, rfl, rfl, rfl⟩, ⟨fun id b hb => ?_, hZ.FF, hZ.UU, hZ.Fn, hZ.ext, fun k b hb => (by cases hb), fun id ab b h1 h2 h3 => ?_, fun id ab h => ?_⟩⟩
  · have hlt : id < n := by
      rcases Nat.lt_or_ge id n with q | q
      · exact q
      · rw [h0 id q] at hb; cases hb
    simp only [Mp.gath, hup id hlt, Nat.zero_add, Option.bind_some]
    exact hZ.g id b hb
  · obtain ⟨j, ab0, q1, q2, q3⟩ := hσ id ab h1
    simp only [Mp.gath, q1, Option.bind_some] at h3
    exact hZ.lg j ab0 b q2 (fun e => h2 ((AB.rn_dead q3).2 e)) h3
  · rcases Nat.lt_or_ge id n with q | q
    · obtain ⟨j, ab0, q1, q2, q3⟩ := hσ id ab h
      rw [hup id q] at q1
      simp only [Nat.zero_add, Option.some.injEq] at q1
      subst q1
      exact hZ.ids id ab0 q2
    · exact .inr (h0 id q)
theorem GV.gather {s' : List (Nat × AB)} (σ : List Nat) (hs : gatherS σ s σ 0 = some s') (hn : nodupB σ = true) (hup : uptoB n 0 σ = true) : GV cx n env [] s (mapE (gsel σ) env) s' := fun z a w M F U h0 hC hZ => by
  obtain ⟨M', F', U', h1, h2⟩ := GV.gather_M σ hs hn hup z a w M F U h0 hC hZ
  exact ⟨M', F', U', h1.1, h2⟩

/-! ### What a region's head has made bears a name from then on -/
def witB (env : Env) (k : Nat) : List Nat → Bool
  | [] => false
  | t :: r => (match look env t with
    | .ref (.l j) _ => Nat.beq j k
    | _ => false) || witB env k r
theorem witB_get {k : Nat} (h : ∀ t, RV M F w (look env t) (slotv a t)) : ∀ {ts : List Nat}, witB env k ts = true → ∃ b, M.l k = some b
  | [], h' => by simp [witB] at h'
  | t :: r, h' => by
    simp only [witB, Bool.or_eq_true] at h'
    rcases h' with h' | h'
    · split at h' <;> try cases h'
      rename_i j off hj
      have := beq_t h'
      subst this
      have h1 := h t
      rw [hj] at h1
      generalize slotv a t = u at h1
      cases h1 with
      | ref _ _ b hm => exact ⟨b, hm⟩
    · exact witB_get h h'
/-- A cell that leads to local k. -/
def cellW (k : Nat) : AV → Bool
  | .ref (.l j) _ => Nat.beq j k
  | .slc (.l j) _ _ (_ + 1) _ => Nat.beq j k
  | .mp (.l j) => Nat.beq j k
  | _ => false
def anyW (env : Env) (keep : List Nat) (k : Nat) : Nat → List AB → Bool
  | _, [] => false
  | i, ab :: r => (match ab with
    | .cells cs => witB env i keep && cs.any (cellW k)
    | _ => false) || anyW env keep k (i + 1) r
def witL (env : Env) (keep : List Nat) (L : List AB) (k : Nat) : Bool := witB env k keep || anyW env keep k 0 L
theorem cellW_get {k : Nat} {M' : Mp} {x : AV} {v : Value} (h : cellW k x = true) (hv : RV M' F w x v) : ∃ b, M'.l k = some b := by
  unfold cellW at h
  split at h <;> try cases h
  · have := beq_t h
    subst this
    cases hv with | ref _ _ b hm => exact ⟨b, hm⟩
  · have := beq_t h
    subst this
    cases hv with
    | slc _ _ _ _ _ b hm => exact ⟨b, hm⟩
  · have := beq_t h
    subst this
    cases hv with | mp _ b hm => exact ⟨b, hm⟩
theorem witL_get {L : List AB} {k : Nat} {ts : List Nat} (hS : St M F U L s w) (h : ∀ t, RV M F w (look env t) (slotv a t)) (h' : witL env ts L k = true) : ∃ b, M.l k = some b := by
  unfold witL at h'
  rw [Bool.or_eq_true] at h'
  rcases h' with h' | h'
  · exact witB_get h h'
  · have key : ∀ (r : List AB) (i : Nat), (∀ j x, r[j]? = some x → L[i + j]? = some x) → anyW env ts k i r = true → ∃ b, M.l k = some b := by
      intro r
      induction r with
      | nil => intro i _ q; simp [anyW] at q
      | cons ab r ih =>
        intro i hi q
        simp only [anyW, Bool.or_eq_true] at q
        rcases q with q | q
        · split at q
          · rename_i cs
            rw [Bool.and_eq_true] at q
            obtain ⟨b0, hb0⟩ := witB_get h q.1
            have hL : L[i]? = some (.cells cs) := hi 0 _ rfl
            obtain ⟨arr, tt, h1, h2, h3⟩ := hS.rb (.l i) (.cells cs) b0 hL hb0
            obtain ⟨c, hc, hcw⟩ := List.any_eq_true.1 q.2
            obtain ⟨j, hj⟩ := List.mem_iff_getElem?.1 hc
            have hjl := (List.getElem?_eq_some_iff.1 hj).1
            obtain ⟨v, hv⟩ : ∃ v, arr[j]? = some v := ⟨_, Array.getElem?_eq_getElem (by omega)⟩
            exact cellW_get hcw (h3 j c v hj hv).2
          · cases q
        · exact ih (i + 1) (fun j x hx => by rw [Nat.add_assoc, Nat.add_comm 1 j]; exact hi (j + 1) x (by simpa using hx)) q
    exact key L 0 (fun j x hx => by rw [Nat.zero_add]; exact hx) h'
def psel (base : Nat) (ok : Nat → Bool) : Rf → Option Rf
  | .g i => some (.g i)
  | .l k => match ok k with
    | true => some (.g (base + k))
    | false => none
def promS (base : Nat) (ok : Nat → Bool) : Nat → List AB → Option (List (Nat × AB))
  | _, [] => some []
  | k, ab :: r => match ok k with
    | true => match ab.rn (psel base ok) with
      | some ab => match promS base ok (k + 1) r with
        | some l => some ((base + k, ab) :: l)
        | none => none
      | none => none
    | false => promS base ok (k + 1) r
theorem promS_get {base : Nat} {ok : Nat → Bool} : ∀ {L : List AB} {k : Nat} {l : List (Nat × AB)}, promS base ok k L = some l → (∀ id ab', (id, ab') ∈ l → ∃ j ab, id = base + (k + j) ∧ ok (k + j) = true ∧ L[j]? = some ab ∧ ab.rn (psel base ok) = some ab') ∧ (l.map (·.1)).Nodup ∧ (∀ id ∈ l.map (·.1), base + k ≤ id) ∧ (∀ j ab, L[j]? = some ab → ok (k + j) = true → base + (k + j) ∈ l.map (·.1))
  | [], k, l, h => by
    simp only [promS, Option.some.injEq] at h
    subst h
    exact ⟨fun id ab h => by simp at h, .nil, fun id h => by simp at h, fun j ab h => by simp at h⟩
  | ab :: r, k, l, h => by
    simp only [promS] at h
    split at h
    · rename_i hok
      split at h <;> try cases h
      rename_i ab' hab
      split at h <;> cases h
      rename_i l' hl
      obtain ⟨q1, q2, q3, q4⟩ := promS_get hl
      refine ⟨fun id x hx => ?_, ?_, fun id hid => ?_, fun j y hy hj => ?_⟩
      · rcases List.mem_cons.1 hx with e | hx
        · cases e; exact ⟨0, ab, rfl, hok, rfl, hab⟩
        · obtain ⟨j, y, e1, e2, e3, e4⟩ := q1 id x hx
          exact ⟨j + 1, y, by omega, by rw [← e2]; congr 1; omega, by simpa using e3, e4⟩
      · simp only [List.map_cons, List.nodup_cons]
        exact ⟨fun hm => by have := q3 _ hm; omega, q2⟩
      · simp only [List.map_cons, List.mem_cons] at hid
        rcases hid with rfl | hid
        · omega
        · have := q3 id hid; omega
      · cases j with
        | zero => simp
        | succ j =>
          simp only [List.map_cons, List.mem_cons]
          right
          have := q4 j y (by simpa using hy) (by rw [← hj]; congr 1; omega)
          rw [show k + (j + 1) = k + 1 + j by omega]
          exact this
    · obtain ⟨q1, q2, q3, q4⟩ := promS_get h
      rename_i hok
      refine ⟨fun id x hx => ?_, q2, fun id hid => (by have := q3 id hid; omega), fun j y hy hj => ?_⟩
      · obtain ⟨j, y, e1, e2, e3, e4⟩ := q1 id x hx
        exact ⟨j + 1, y, by omega, by rw [← e2]; congr 1; omega, by simpa using e3, e4⟩
      · cases j with
        | zero => simp only [Nat.add_zero] at hj; rw [hok] at hj; cases hj
        | succ j =>
          have := q4 j y (by simpa using hy) (by rw [← hj]; congr 1; omega)
          rw [show k + (j + 1) = k + 1 + j by omega]
          exact this
def Mp.prom (M : Mp) (base : Nat) (ok : Nat → Bool) : Mp := ⟨fun _ => none, fun id => match Nat.ble base id with
  | true => match ok (id - base) with
    | true => M.l (id - base)
    | false => none
  | false => M.g id⟩
def belowB (base : Nat) : List (Nat × AB) → Bool
  | [] => true
  | (i, _) :: r => Nat.blt i base && belowB base r
theorem belowB_get {base : Nat} : ∀ {s : List (Nat × AB)}, belowB base s = true → ∀ id ab, (id, ab) ∈ s → id < base
  | [], _, _, _, h => by simp at h
  | (i, x) :: r, h, id, ab, hm => by
    simp only [belowB, Bool.and_eq_true] at h
    rcases List.mem_cons.1 hm with e | hm
    · cases e; simpa [Nat.blt_eq] using h.1
    · exact belowB_get h.2 id ab hm
theorem GV.prom {base : Nat} {ok : Nat → Bool} {s2 : List (Nat × AB)} (hw : ∀ k, k < L.length → ok k = true → witL env cx.keep L k = true) (hok : ∀ k, L.length ≤ k → ok k = false) (hs : promS base ok 0 L = some s2) (hb : belowB base s = true) (hn : n ≤ base) :
    GV cx n env L s (mapE (psel base ok) env) (s ++ s2) := by
  intro z a w M F U h0 hC hZ
  obtain ⟨q1, q2, q3, q4⟩ := promS_get hs
  simp only [Nat.zero_add, Nat.add_zero] at q1 q3 q4
  have hbel := belowB_get hb
  have hgn : ∀ id, base ≤ id → M.g id = none := fun id hid => hC.st.gdom id fun ab h => by have := hbel id ab h; omega
  have hvia : Mp.Via (psel base ok) M (M.prom base ok).glo := fun r r' b h hm => by
    cases r with
    | g i =>
      cases h
      simp only [Mp.at_, Mp.glo, Mp.prom]
      have hi : i < base := by
        rcases Nat.lt_or_ge i base with q | q
        · exact q
        · have := hgn i q; simp only [Mp.at_] at hm; rw [this] at hm; cases hm
      have : Nat.ble base i = false := by
        cases e : Nat.ble base i with
        | false => rfl
        | true => have := Nat.le_of_ble_eq_true e; omega
      rw [this]
      exact hm
    | l k =>
      simp only [psel] at h
      split at h <;> cases h
      rename_i hk
      simp only [Mp.at_, Mp.glo, Mp.prom, Nat.ble_eq_true_of_le (Nat.le_add_right base k), Nat.add_sub_cancel_left, hk]
      exact hm
  have hprom : ∀ k b, ok k = true → M.l k = some b → (M.prom base ok).g (base + k) = some b := fun k b hk hb => by
    simp only [Mp.prom, Nat.ble_eq_true_of_le (Nat.le_add_right base k), Nat.add_sub_cancel_left, hk]
    exact hb
  have hold : ∀ id, id < base → (M.prom base ok).g id = M.g id := fun id hid => by
    have : Nat.ble base id = false := by
      cases e : Nat.ble base id with
      | false => rfl
      | true => have := Nat.le_of_ble_eq_true e; omega
    simp only [Mp.prom, this]
  have hwl : ∀ k, ok k = true → ∃ b, M.l k = some b := fun k hk => witL_get hC.st hC.env (hw k (by
    rcases Nat.lt_or_ge k L.length with q | q
    · exact q
    · rw [hok k q] at hk; cases hk) hk)
  have hvia' : Mp.Via (psel base ok) M (M.prom base ok) := fun r r' b h hm => (M.prom base ok).glo_le r' b (hvia r r' b h hm)
  have hle : M.glo.Le (M.prom base ok).glo := fun r b h => by
    cases r with
    | l k => cases h
    | g i => exact hvia (.g i) (.g i) b rfl h
  have hs2 : ∀ id ab', (id, ab') ∈ s2 → ∃ j ab b, id = base + j ∧ ok j = true ∧ L[j]? = some ab ∧ ab.rn (psel base ok) = some ab' ∧ M.l j = some b := fun id ab' h => by
    obtain ⟨j, ab, e1, e2, e3, e4⟩ := q1 id ab' h
    obtain ⟨b, hb⟩ := hwl j e2
    exact ⟨j, ab, b, e1, e2, e3, e4, hb⟩
  have hcase : ∀ id ab', (id, ab') ∈ s ++ s2 → ((id, ab') ∈ s ∧ id < base) ∨ ((id, ab') ∈ s2 ∧ base ≤ id) := fun id ab' h => by
    rcases List.mem_append.1 h with h | h
    · exact .inl ⟨h, hbel id ab' h⟩
    · obtain ⟨j, _, _, e1, _⟩ := hs2 id ab' h
      exact .inr ⟨h, by omega⟩
  have hst : St (M.prom base ok) F U [] (s ++ s2) w := by
    refine hC.st.recast (f := fun id => match Nat.ble base id with
      | true => .l (id - base)
      | false => .g id) (fun _ => rfl) ?_ (fun id ab' h => ?_) (fun id id' e _ _ => ?_) (fun id h => ?_)
    · rw [List.map_append]
      refine List.nodup_append.2 ⟨hC.st.nd, q2, fun x hx y hy e => ?_⟩
      subst e
      obtain ⟨⟨i, ab⟩, p1, p2⟩ := List.mem_map.1 hx
      simp only at p2
      subst p2
      have := hbel i ab p1
      have := q3 i hy
      omega
    · rcases hcase id ab' h with ⟨h, hid⟩ | ⟨h, hid⟩
      · obtain ⟨b, hb⟩ := hC.st.tot id ab' h
        have hf : Nat.ble base id = false := by
          cases e : Nat.ble base id with
          | false => rfl
          | true => have := Nat.le_of_ble_eq_true e; omega
        simp only [hf]
        exact ⟨ab', b, h, fun hr => hr.mono hle (fun _ h => h) hC.st.FU (.refl _ _) (fun _ => rfl), fun e => e, hb, by rw [hold id hid]; exact hb⟩
      · obtain ⟨j, ab, b, e1, e2, e3, e4, e5⟩ := hs2 id ab' h
        subst e1
        simp only [Nat.ble_eq_true_of_le (Nat.le_add_right base j), Nat.add_sub_cancel_left]
        exact ⟨ab, b, e3, hC.st.rb_rn hvia e4 b, fun d h => d ((AB.rn_dead e4).2 h), e5, hprom j b e2 e5⟩
    · cases e1 : Nat.ble base id <;> cases e2 : Nat.ble base id' <;> rw [e1, e2] at e <;> simp only [Rf.g.injEq, Rf.l.injEq] at e
      · exact e
      · cases e
      · cases e
      · have := Nat.le_of_ble_eq_true e1
        have := Nat.le_of_ble_eq_true e2
        omega
    · rcases Nat.lt_or_ge id base with q | q
      · rw [hold id q]
        exact hC.st.gdom id fun ab hab => h ab (List.mem_append.2 (.inl hab))
      · simp only [Mp.prom, Nat.ble_eq_true_of_le q]
        split
        · rename_i hk
          exfalso
          have hlt : id - base < L.length := by
            rcases Nat.lt_or_ge (id - base) L.length with q | q
            · exact q
            · rw [hok _ q] at hk; cases hk
          have := q4 (id - base) _ (List.getElem?_eq_getElem hlt) hk
          obtain ⟨⟨i, ab⟩, p1, p2⟩ := List.mem_map.1 this
          simp only at p2
          rw [show base + (id - base) = id by omega] at p2
          subst p2
          exact h ab (List.mem_append.2 (.inr p1))
        · rfl
  refine ⟨M.prom base ok, F, U, ⟨hst, hC.gl, mapE_rv hvia' hC.env, hC.size, hC.defers⟩, ⟨fun id b hb => ?_, hZ.FF, hZ.UU, hZ.Fn, hZ.ext, fun k b hb => (by cases hb), fun id ab b h1 h2 h3 => ?_, fun id ab h => ?_⟩⟩
  · have hlt : id < n := by
      rcases Nat.lt_or_ge id n with q | q
      · exact q
      · rw [h0 id q] at hb; cases hb
    rw [hold id (by omega)]
    exact hZ.g id b hb
  · rcases hcase id ab h1 with ⟨h, hid⟩ | ⟨h, hid⟩
    · rw [hold id hid] at h3
      exact hZ.lg id ab b h h2 h3
    · obtain ⟨j, ab0, b0, e1, e2, e3, e4, e5⟩ := hs2 id ab h
      subst e1
      rw [hprom j b0 e2 e5] at h3
      cases h3
      exact .inl (hZ.ll j _ e5)
  · rcases hcase id ab h with ⟨h, hid⟩ | ⟨h, hid⟩
    · exact hZ.ids id ab h
    · exact .inr (h0 id (by omega))
end
end Go.Pv
/- An object of our own that is written no more: data from then on. -/
namespace Go.Pv
open Go.RowKit

section
variable {P : Program} {cx : Ctx} {env : Env} {L : List AB} {s s' : List (Nat × AB)} {M M' : Mp} {F U : Nat → Prop} {w : World} {a : Act} {z : Z} {n : Nat}

def fzB (id : Nat) (ab : AB) : AB → AB
  | .cells cs => .cells (fzL id ab cs)
  | .arow sz rows => .arow sz (rows.map (fzL id ab))
  | .map es => .map (es.map fun e => (e.1.fz id ab, e.2.fz id ab))
  | .row sz rows => .row sz rows
  | .dmap es => .dmap es
  | .dead => .dead
def fzBOK (id : Nat) (ab : AB) : AB → Prop
  | .cells cs => fzLOK id ab cs
  | .arow _ rows => ∀ r ∈ rows, fzLOK id ab r
  | .map es => ∀ e ∈ es, e.1.fzOK id ab ∧ e.2.fzOK id ab
  | _ => True
theorem fzB_dead {id : Nat} {ab x : AB} : fzB id ab x = .dead ↔ x = .dead := by cases x <;> simp [fzB]
theorem DX.fz {F' : Nat → Prop} {x : DX} {v : Value} (h : RV M F w x.av v) (hF : ∀ b, F b → F' b) : RV M F' w x.av v := by
  cases x with
  | one x => cases h with | d h => exact .d (h.mono hF (fun _ _ => rfl))
  | agg xs =>
    simp only [DX.av] at h ⊢
    cases h with
    | agg cs vs hl h1 h =>
      refine .agg _ vs hl h1 fun j x v hx hv => ?_
      have := h j x v hx hv
      rw [List.getElem?_map] at hx
      obtain ⟨y, hy, rfl⟩ := Option.map_eq_some_iff.1 hx
      cases this with | d h => exact .d (h.mono hF (fun _ _ => rfl))
theorem RB.fz (hS : St M F U L s w) {M0 : Mp} {id b : Nat} {ab : AB} (hid : sfind s id = some ab) (hb : M.g id = some b) (h0 : M0.g id = some b) (hle : M0.Le M) {x : AB} {c : Nat} (h : RB M0 F w c x) (hok : fzBOK id ab x) : RB M0 (fun c => F c ∨ c = b) w c (fzB id ab x) := by
  cases x with
  | cells cs =>
    obtain ⟨arr, t, h1, h2, h3⟩ := h
    refine ⟨arr, t, h1, by rw [fzL_len]; exact h2, fun j y u hy hu => ?_⟩
    obtain ⟨x, hx, rfl⟩ := fzL_get hy
    exact ⟨(h3 j x u hx hu).1, (h3 j x u hx hu).2.fz hS hid hb h0 hle (fun _ h => h) (fzLOK_get hok hx)⟩
  | row sz rows =>
    obtain ⟨arr, t, h1, h2, h3, h4, h5⟩ := h
    exact ⟨arr, t, h1, h2, h3, h4, fun i r j x v hi hj hv => (h5 i r j x v hi hj hv).mono (fun _ h => .inl h) (fun _ _ => rfl)⟩
  | arow sz rows =>
    obtain ⟨arr, t, h1, h2, h3, h4, h5⟩ := h
    refine ⟨arr, t, h1, by simpa [fzB] using h2, fun i r hi => ?_, h4, fun i r j x v hi hj hv => ?_⟩
    · simp only [List.getElem?_map] at hi
      obtain ⟨r0, hr0, rfl⟩ := Option.map_eq_some_iff.1 hi
      rw [fzL_len]; exact h3 i r0 hr0
    · rw [List.getElem?_map] at hi
      obtain ⟨r0, hr0, rfl⟩ := Option.map_eq_some_iff.1 hi
      obtain ⟨x0, hx0, rfl⟩ := fzL_get hj
      exact (h5 i r0 j x0 v hr0 hx0 hv).fz hS hid hb h0 hle (fun _ h => h) (fzLOK_get (hok r0 (List.mem_of_getElem? hr0)) hx0)
  | map es =>
    obtain ⟨ents, clock, h1, h2, h3, h4⟩ := h
    refine ⟨ents, clock, h1, by simpa [fzB] using h2, fun i e x he hx => ?_, h4⟩
    rw [List.getElem?_map] at hx
    obtain ⟨y, hy, rfl⟩ := Option.map_eq_some_iff.1 hx
    have := hok y (List.mem_of_getElem? hy)
    exact ⟨(h3 i e y he hy).1.fz hS hid hb h0 hle (fun _ h => h) this.1, (h3 i e y he hy).2.fz hS hid hb h0 hle (fun _ h => h) this.2⟩
  | dmap es =>
    obtain ⟨ents, clock, h1, h2, h3, h4⟩ := h
    exact ⟨ents, clock, h1, h2, fun i e x he hx => ⟨DX.fz (h3 i e x he hx).1 (fun _ h => .inl h), DX.fz (h3 i e x he hx).2 (fun _ h => .inl h)⟩, h4⟩
  | dead => trivial

def fzE (id : Nat) (ab : AB) : Env → Env
  | [] => []
  | (t, v) :: r => (t, v.fz id ab) :: fzE id ab r
def fzEOK (id : Nat) (ab : AB) : Env → Prop
  | [] => True
  | (_, v) :: r => v.fzOK id ab ∧ fzEOK id ab r
def fzS (id : Nat) (ab : AB) : List (Nat × AB) → List (Nat × AB)
  | [] => []
  | (i, x) :: r => (i, match Nat.beq i id with
    | true => .dead
    | false => fzB id ab x) :: fzS id ab r
def fzSOK (id : Nat) (ab : AB) : List (Nat × AB) → Prop
  | [] => True
  | (i, x) :: r => (match Nat.beq i id with
    | true => True
    | false => fzBOK id ab x) ∧ fzSOK id ab r
theorem fzS_get {id : Nat} {ab : AB} : ∀ {s : List (Nat × AB)}, fzSOK id ab s → (fzS id ab s).map (·.1) = s.map (·.1) ∧ ∀ i y, (i, y) ∈ fzS id ab s → ∃ x, (i, x) ∈ s ∧ ((i = id ∧ y = .dead) ∨ (i ≠ id ∧ y = fzB id ab x ∧ fzBOK id ab x))
  | [], _ => ⟨rfl, fun i y h => by simp [fzS] at h⟩
  | (j, x) :: r, h => by
    simp only [fzSOK] at h
    obtain ⟨k1, k2⟩ := fzS_get h.2
    refine ⟨by simp [fzS, k1], fun i y hy => ?_⟩
    simp only [fzS] at hy
    rcases List.mem_cons.1 hy with e | hy
    · cases hb : Nat.beq j id with
      | true =>
        rw [hb] at e
        cases e
        exact ⟨x, by simp, .inl ⟨beq_t hb, rfl⟩⟩
      | false =>
        rw [hb] at e h
        cases e
        exact ⟨x, by simp, .inr ⟨beq_f hb, rfl, h.1⟩⟩
    · obtain ⟨x', h1, h2⟩ := k2 i y hy
      exact ⟨x', List.mem_cons_of_mem _ h1, h2⟩

theorem GV.freeze (id : Nat) {ab : AB} (hid : sfind s id = some ab) (hd : ab ≠ .dead) (hE : fzEOK id ab env) (hSo : fzSOK id ab s) : GV cx n env [] s (fzE id ab env) (fzS id ab s) := by
  intro z a w M F U h0 hC hZ
  have hS := hC.st
  obtain ⟨b, hb⟩ := hS.tot id ab (sfind_mem hid)
  obtain ⟨k1, k2⟩ := fzS_get hSo
  have hbl : b < w.heap.size := hS.lt (r := .g id) (sfind_mem hid) hd hb
  have live : ∀ i y, (i, y) ∈ fzS id ab s → y ≠ .dead → ∃ x, (i, x) ∈ s ∧ i ≠ id ∧ y = fzB id ab x ∧ fzBOK id ab x ∧ x ≠ .dead := fun i y h hy => by
    obtain ⟨x, h1, h2 | h2⟩ := k2 i y h
    · exact absurd h2.2 hy
    · exact ⟨x, h1, h2.1, h2.2.1, h2.2.2, fun e => hy (by rw [h2.2.1, e]; rfl)⟩
  refine ⟨M, fun c => F c ∨ c = b, fun c => U c ∨ c = b, ⟨⟨fun r y c hr hm => ?_, fun r r' y y' c h1 h2 d1 d2 m1 m2 => ?_, fun r y c hr hy hm => ?_, by rw [k1]; exact hS.nd, fun c hc => hc.imp (hS.FU c) (fun h => h), fun c hc => ?_, hS.dom, fun i y h => ?_, fun i h => hS.gdom i fun x hx => ?_⟩, hC.gl.mono (fun _ h => .inl h) hS.FU (.refl _ _), fun t => ?_, hC.size, hC.defers⟩,
    ⟨hZ.g, fun c hc => .inl (hZ.FF c hc), fun c hc => .inl (hZ.UU c hc), fun c hc => ?_, hZ.ext, hZ.ll, fun i y c h1 h2 h3 => ?_, fun i y h => ?_⟩⟩
  · cases r with
    | l k => simp [Here] at hr
    | g i =>
      by_cases hy : y = .dead
      · subst hy; trivial
      · obtain ⟨x, h1, _, rfl, h3, _⟩ := live i y hr hy
        exact (hS.rb (.g i) x c h1 hm).fz hS hid hb (M0 := M.glo) hb M.glo_le h3
  · cases r with
    | l k => simp [Here] at h1
    | g i =>
      cases r' with
      | l k => simp [Here] at h2
      | g i' =>
        obtain ⟨x, p1, _, _, _, p5⟩ := live i y h1 d1
        obtain ⟨x', q1, _, _, _, q5⟩ := live i' y' h2 d2
        exact hS.inj (.g i) (.g i') x x' c p1 q1 p5 q5 m1 m2
  · cases r with
    | l k => simp [Here] at hr
    | g i =>
      obtain ⟨x, p1, p2, _, _, p5⟩ := live i y hr hy
      rintro (h | rfl)
      · exact hS.nU (.g i) x c p1 p5 hm h
      · have := hS.inj (.g i) (.g id) x ab c p1 (sfind_mem hid) p5 hd hm hb
        exact p2 (by cases this; rfl)
  · rcases hc with h | rfl
    · exact hS.Ult c h
    · exact hbl
  · obtain ⟨x, h1, _⟩ := k2 i y h
    exact hS.tot i x h1
  · have : i ∈ (fzS id ab s).map (·.1) := by rw [k1]; exact List.mem_map.2 ⟨_, hx, rfl⟩
    obtain ⟨⟨j, y⟩, p1, p2⟩ := List.mem_map.1 this
    simp only at p2
    subst p2
    exact h y p1
  · have key : ∀ {env : Env}, fzEOK id ab env → ∀ {u : Value}, RV M F w (look env t) u → RV M (fun c => F c ∨ c = b) w (look (fzE id ab env) t) u := by
      intro env
      induction env with
      | nil => intro _ u _; exact .undef _
      | cons x r ih =>
        obtain ⟨i, y⟩ := x
        intro hok u h
        simp only [fzEOK] at hok
        simp only [fzE, look] at h ⊢
        split
        · rename_i hb'
          rw [hb'] at h
          exact RV.fz hS hid hb hb (.refl M) (fun _ h => h) h hok.1
        · rename_i hb'
          rw [hb'] at h
          exact ih hok.2 h
    exact key hE (hC.env t)
  · rcases hc with h | rfl
    · exact hZ.Fn c h
    · exact .inr (hZ.lg id ab c (sfind_mem hid) hd hb)
  · obtain ⟨x, p1, _, _, _, p5⟩ := live i y h1 h2
    exact hZ.lg i x c p1 p5 h3
  · obtain ⟨x, h1, _⟩ := k2 i y h
    exact hZ.ids i x h1

/-- Slots that are told on no more. -/
def dropE (ks : List Nat) : Env → Env
  | [] => []
  | (t, v) :: r => (t, match memB t ks with
    | true => v
    | false => .undef) :: dropE ks r
theorem GV.drop (ks : List Nat) : GV cx n env [] s (dropE ks env) s := by
  intro z a w M F U _ hC hZ
  refine ⟨M, F, U, ⟨hC.st, hC.gl, fun t => ?_, hC.size, hC.defers⟩, hZ⟩
  have key : ∀ {env : Env} {u : Value}, RV M F w (look env t) u → RV M F w (look (dropE ks env) t) u := by
    intro env
    induction env with
    | nil => intro u _; exact .undef _
    | cons x r ih =>
      obtain ⟨i, y⟩ := x
      intro u h
      simp only [dropE, look] at h ⊢
      split
      · rename_i hb
        rw [hb] at h
        split
        · exact h
        · exact .undef _
      · rename_i hb
        rw [hb] at h
        exact ih h
  exact key (hC.env t)

/-- An object that is wanted no more. -/
theorem GV.kill (id : Nat) {ab : AB} (hid : sfind s id = some ab) : GV cx n env [] s env (sput s id .dead) := by
  intro z a w M F U _ hC hZ
  have hE := eff_kill hC.st hid
  exact ⟨M, F, U, ⟨hE.st, hC.gl, hC.env, hC.size, hC.defers⟩, hZ.eff hE⟩
end
end Go.Pv
