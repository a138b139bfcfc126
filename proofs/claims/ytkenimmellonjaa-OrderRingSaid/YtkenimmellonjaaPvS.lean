/- Rows of a block that grow, and what is done with them: the telling of append, copy, clear, make, stores into elements. -/
import Derived.Test.YtkenimmellonjaaPvM
import Derived.Deep.Upon
import Derived.Lib.AppendZerosOnto
import Derived.Lib.Overlaps
namespace Go.Pv
open Go.RowKit

section
variable {P : Program} {G : Gl} {T : Nat → Option TI} {o : Oper} {rh : Operand → AV} {L L1 L2 : List AB} {s s1 s2 : List (Nat × AB)} {M M1 M2 : Mp} {F F1 F2 U U1 U2 : Nat → Prop} {w w1 w2 : World} {v v1 v2 : AV} {val val1 val2 : Value}

theorem Eff.trans (h : Eff M F U s w L1 s1 v1 val1 M1 F1 U1 w1) (k : Eff M1 F1 U1 s1 w1 L2 s2 v2 val2 M2 F2 U2 w2) : Eff M F U s w L2 s2 v2 val2 M2 F2 U2 w2 := by
  have hl : ∀ b, LiveG M1.g s1 b → w.heap.size ≤ b ∨ LiveG M.g s b ∨ ∃ k, M.l k = some b := fun b ⟨id, ab, q1, q2, q3⟩ => h.lg id ab b q1 q2 q3
  have hsz := h.ext.size
  refine ⟨h.le.trans k.le, fun b q => k.FF b (h.FF b q), fun b q => k.UU b (h.UU b q), h.ext.trans k.ext h.UU, k.st, k.rv, fun b q => ?_, fun n b q => ?_, fun id ab b q1 q2 q3 => ?_, fun id ab q => ?_⟩
  · rcases k.Fn b q with q | q | q | ⟨n, q⟩
    · exact h.Fn b q
    · exact .inr (.inl (by omega))
    · rcases hl b q with q | q | q
      · exact .inr (.inl q)
      · exact .inr (.inr (.inl q))
      · exact .inr (.inr (.inr q))
    · rcases h.ll n b q with q | q
      · exact .inr (.inl q)
      · exact .inr (.inr (.inr q))
  · rcases k.ll n b q with q | ⟨n', q⟩
    · exact .inl (by omega)
    · exact h.ll n' b q
  · rcases k.lg id ab b q1 q2 q3 with q | q | ⟨n, q⟩
    · exact .inl (by omega)
    · exact hl b q
    · rcases h.ll n b q with q | q
      · exact .inl q
      · exact .inr (.inr q)
  · rcases k.ids id ab q with ⟨ab0, q⟩ | q
    · exact h.ids id ab0 q
    · cases hg : M.g id with
      | none => exact .inr rfl
      | some b => have := h.le (.g id) b hg; simp only [Mp.at_] at this; rw [this] at q; cases q
theorem Eff.tell (h : Eff M F U s w L1 s1 v1 val1 M1 F1 U1 w1) (hv : RV M1 F1 w1 v2 val2) : Eff M F U s w L1 s1 v2 val2 M1 F1 U1 w1 :=
  ⟨h.le, h.FF, h.UU, h.ext, h.st, hv, h.Fn, h.ll, h.lg, h.ids⟩
theorem Eff.same (hS : St M F U L s w) : Eff M F U s w L s .undef Go.undef M F U w :=
  ⟨.refl M, fun _ h => h, fun _ h => h, .refl _ _, hS, .undef _, fun _ h => .inl h, fun k _ h => .inr ⟨k, h⟩, fun id ab _ h1 h2 h3 => .inr (.inl ⟨id, ab, h1, h2, h3⟩), fun _ ab h => .inl ⟨ab, h⟩⟩

theorem ext_drewN (U : Nat → Prop) (w : World) : Ext U w w.drew := ⟨rfl, rfl, rfl, Nat.le_refl _, fun _ _ => rfl, fun _ _ => rfl⟩
theorem St.ext (hS : St M F U L s w) {w' : World} (hX : ∀ U, Ext U w w') (hh : w'.heap = w.heap) : St M F U L s w' := by
  refine ⟨fun r ab b hr hm => (hS.rb r ab b hr hm).mono (.refl _) (fun _ h => h) hS.FU (hX U) (fun _ => by rw [hh]), hS.inj, hS.nU, hS.nd, hS.FU, fun b hb => by rw [hh]; exact hS.Ult b hb, hS.dom, hS.tot, hS.gdom⟩
theorem eff_drew (hS : St M F U L s w) : Eff M F U s w L s .undef Go.undef M F U w.drew :=
  ⟨.refl M, fun _ h => h, fun _ h => h, ext_drewN _ _, hS.ext (fun U => ext_drewN U w) rfl, .undef _, fun _ h => .inl h, fun k _ h => .inr ⟨k, h⟩, fun id ab _ h1 h2 h3 => .inr (.inl ⟨id, ab, h1, h2, h3⟩), fun _ ab h => .inl ⟨ab, h⟩⟩

theorem sput_mem {s : List (Nat × AB)} (hnd : (s.map (·.1)).Nodup) {id : Nat} {ab ab0 : AB} (hm : sfind s id = some ab0) : ∀ i x, (i, x) ∈ sput s id ab ↔ (i = id ∧ x = ab) ∨ (i ≠ id ∧ (i, x) ∈ s) := by
  have hp := Put.gput (L := []) ab hm
  intro i x
  obtain ⟨hsp, hids, _⟩ := hp.spec hnd
  constructor
  · intro h
    rcases hsp (.g i) x h with ⟨e, rfl⟩ | ⟨h1, h2⟩
    · cases e; exact .inl ⟨rfl, rfl⟩
    · exact .inr ⟨fun e => h1 (by rw [e]), h2⟩
  · have hids' : (sput s id ab).map (·.1) = s.map (·.1) := hids
    rintro (⟨rfl, rfl⟩ | ⟨h1, h2⟩)
    · have : i ∈ (sput s i x).map (·.1) := by
        rw [hids']
        exact List.mem_map.2 ⟨_, sfind_mem hm, rfl⟩
      obtain ⟨⟨j, y⟩, q1, q2⟩ := List.mem_map.1 this
      simp only at q2
      subst q2
      rcases hsp (.g j) y q1 with ⟨_, rfl⟩ | ⟨q3, _⟩
      · exact q1
      · exact absurd rfl q3
    · have : i ∈ (sput s id ab).map (·.1) := by
        rw [hids']
        exact List.mem_map.2 ⟨_, h2, rfl⟩
      obtain ⟨⟨j, y⟩, q1, q2⟩ := List.mem_map.1 this
      simp only at q2
      subst q2
      rcases hsp (.g j) y q1 with ⟨e, _⟩ | ⟨_, q3⟩
      · cases e; exact absurd rfl h1
      · have hn := hnd
        have key : ∀ {s : List (Nat × AB)}, (s.map (·.1)).Nodup → (j, y) ∈ s → (j, x) ∈ s → y = x := by
          intro s
          induction s with
          | nil => intro _ h; cases h
          | cons z r ih =>
            intro hn h1 h2
            simp only [List.map_cons, List.nodup_cons] at hn
            rcases List.mem_cons.1 h1 with e | h1 <;> rcases List.mem_cons.1 h2 with e' | h2
            · rw [← e] at e'; cases e'; rfl
            · exact absurd (List.mem_map.2 ⟨_, h2, by rw [← e]⟩) hn.1
            · exact absurd (List.mem_map.2 ⟨_, h1, by rw [← e']⟩) hn.1
            · exact ih hn.2 h1 h2
        rw [← key hn q3 h2]
        exact q1
theorem sput_ids {s : List (Nat × AB)} {id : Nat} {ab ab0 : AB} (hnd : (s.map (·.1)).Nodup) (hm : sfind s id = some ab0) : (sput s id ab).map (·.1) = s.map (·.1) := ((Put.gput (L := []) ab hm).spec hnd).2.1

/-- An object that is not wanted any more. -/
theorem eff_kill (hS : St M F U L s w) {id : Nat} {ab0 : AB} (hm : sfind s id = some ab0) : Eff M F U s w L (sput s id .dead) .undef Go.undef M F U w := by
  have hmem := sput_mem hS.nd (ab := .dead) hm
  have old : ∀ r ab, Here L (sput s id .dead) r ab → ab ≠ .dead → Here L s r ab := by
    intro r ab h hd
    cases r with
    | l k => exact h
    | g i =>
      rcases (hmem i ab).1 h with ⟨_, rfl⟩ | ⟨_, h⟩
      · exact absurd rfl hd
      · exact h
  have hidm : ∀ i ab, (i, ab) ∈ sput s id .dead → ∃ ab0, (i, ab0) ∈ s := fun i ab h => by
    rcases (hmem i ab).1 h with ⟨rfl, _⟩ | ⟨_, h⟩
    · exact ⟨_, sfind_mem hm⟩
    · exact ⟨_, h⟩
  refine ⟨.refl M, fun _ h => h, fun _ h => h, .refl _ _, ?_, .undef _, fun _ h => .inl h, fun k b h => .inr ⟨k, h⟩, fun i ab b h1 h2 h3 => .inr (.inl ⟨i, ab, old (.g i) ab h1 h2, h2, h3⟩), fun i ab h => .inl (hidm i ab h)⟩
  refine ⟨fun r ab b hr hm' => ?_, fun r r' a1 a2 b h1 h2 d1 d2 m1 m2 => hS.inj r r' a1 a2 b (old r a1 h1 d1) (old r' a2 h2 d2) d1 d2 m1 m2, fun r ab b hr hd hm' => hS.nU r ab b (old r ab hr hd) hd hm', by rw [sput_ids hS.nd hm]; exact hS.nd, hS.FU, hS.Ult, hS.dom, fun i ab h => ?_, fun i h => hS.gdom i fun ab hab => ?_⟩
  · by_cases hd : ab = .dead
    · subst hd; trivial
    · exact hS.rb r ab b (old r ab hr hd) hm'
  · obtain ⟨a, h'⟩ := hidm i ab h
    exact hS.tot i a h'
  · by_cases e : i = id
    · subst e; exact h .dead ((hmem i _).2 (.inl ⟨rfl, rfl⟩))
    · exact h ab ((hmem i _).2 (.inr ⟨e, hab⟩))

/-- An object under another name; its old one stands for nothing any more. -/
theorem eff_move (hS : St M F U L s w) {id n b : Nat} {ab : AB} (hm : sfind s id = some ab) (hn : sfind s n = none) (hb : M.g id = some b) (hd : ab ≠ .dead) :
    Eff M F U s w L (sput s id .dead ++ [(n, ab)]) .undef Go.undef (M.putG n b) F U w := by
  have hmem := sput_mem hS.nd (ab := .dead) hm
  have hfr := sfind_none hn
  have hgn : M.g n = none := hS.gdom n hfr
  have hle : M.Le (M.putG n b) := by
    intro r b' h
    cases r with
    | l k => exact h
    | g i =>
      simp only [Mp.at_, Mp.putG] at h ⊢
      by_cases e : i = n
      · subst e; rw [hgn] at h; cases h
      · rw [if_neg e]; exact h
  have hold : ∀ r, r ≠ .g n → (M.putG n b).at_ r = M.at_ r := by
    intro r hr
    cases r with
    | l k => rfl
    | g i => simp only [Mp.at_, Mp.putG]; rw [if_neg (fun e => hr (by rw [e]))]
  have hself : (M.putG n b).at_ (.g n) = some b := by simp [Mp.at_, Mp.putG]
  have hne : id ≠ n := fun e => hfr ab (e ▸ sfind_mem hm)
  -- each live place of the new telling: one of the old
  have old : ∀ r ab', Here L (sput s id .dead ++ [(n, ab)]) r ab' → ab' ≠ .dead → (r ≠ .g n ∧ r ≠ .g id ∧ Here L s r ab') ∨ (r = .g n ∧ ab' = ab) := by
    intro r ab' h hd'
    cases r with
    | l k => exact .inl ⟨by simp, by simp, h⟩
    | g i =>
      simp only [Here, List.mem_append, List.mem_singleton] at h
      rcases h with h | h
      · rcases (hmem i ab').1 h with ⟨_, rfl⟩ | ⟨h1, h⟩
        · exact absurd rfl hd'
        · exact .inl ⟨fun e => (by cases e; exact hfr _ h), fun e => (by cases e; exact h1 rfl), h⟩
      · cases h; exact .inr ⟨rfl, rfl⟩
  have hidm : ∀ i ab', (i, ab') ∈ sput s id .dead ++ [(n, ab)] → (∃ ab0, (i, ab0) ∈ s) ∨ i = n := fun i ab' h => by
    simp only [List.mem_append, List.mem_singleton] at h
    rcases h with h | h
    · rcases (hmem i ab').1 h with ⟨rfl, _⟩ | ⟨_, h⟩
      · exact .inl ⟨_, sfind_mem hm⟩
      · exact .inl ⟨_, h⟩
    · cases h; exact .inr rfl
  refine ⟨hle, fun _ h => h, fun _ h => h, .refl _ _, ?_, .undef _, fun _ h => .inl h, fun k b h => .inr ⟨k, h⟩, fun i ab' b' h1 h2 h3 => ?_, fun i ab' h => ?_⟩
  · refine ⟨fun r ab' b' hr hm' => ?_, fun r r' a1 a2 b' h1 h2 d1 d2 m1 m2 => ?_, fun r ab' b' hr hd' hm' => ?_, ?_, hS.FU, hS.Ult, hS.dom, fun i ab' h => ?_, fun i h => ?_⟩
    · by_cases hd' : ab' = .dead
      · subst hd'; trivial
      · rcases old r ab' hr hd' with ⟨q1, _, q⟩ | ⟨rfl, rfl⟩
        · rw [hold r q1] at hm'
          exact (hS.rb r ab' b' q hm').mono (hle.sub r) (fun _ h => h) hS.FU (.refl _ _) (fun _ => rfl)
        · rw [hself] at hm'
          cases hm'
          exact (hS.rb (.g id) _ b (sfind_mem hm) hb).mono hle.glo (fun _ h => h) hS.FU (.refl _ _) (fun _ => rfl)
    · rcases old r a1 h1 d1 with ⟨q1, q2, q3⟩ | ⟨rfl, rfl⟩ <;> rcases old r' a2 h2 d2 with ⟨p1, p2, p3⟩ | ⟨rfl, rfl⟩
      · rw [hold r q1] at m1; rw [hold r' p1] at m2
        exact hS.inj r r' a1 a2 b' q3 p3 d1 d2 m1 m2
      · rw [hold r q1] at m1
        rw [hself] at m2
        cases m2
        exact absurd (hS.inj r (.g id) a1 _ b q3 (sfind_mem hm) d1 d2 m1 hb) q2
      · rw [hold r' p1] at m2
        rw [hself] at m1
        cases m1
        exact absurd (hS.inj r' (.g id) a2 _ b p3 (sfind_mem hm) d2 d1 m2 hb) p2
      · rfl
    · rcases old r ab' hr hd' with ⟨q1, _, q⟩ | ⟨rfl, rfl⟩
      · rw [hold r q1] at hm'
        exact hS.nU r ab' b' q hd' hm'
      · rw [hself] at hm'
        cases hm'
        exact hS.nU (.g id) _ b (sfind_mem hm) hd hb
    · rw [List.map_append, sput_ids hS.nd hm]
      refine List.nodup_append.2 ⟨hS.nd, by simp, fun x hx y hy e => ?_⟩
      simp only [List.map_cons, List.map_nil, List.mem_singleton] at hy
      subst hy
      subst e
      obtain ⟨⟨i, a⟩, h1, h2⟩ := List.mem_map.1 hx
      simp only at h2
      subst h2
      exact hfr a h1
    · rcases hidm i ab' h with ⟨a, h'⟩ | rfl
      · obtain ⟨b', hb'⟩ := hS.tot i a h'
        exact ⟨b', hle (.g i) b' hb'⟩
      · exact ⟨_, hself⟩
    · have hin : i ≠ n := fun e => h ab (by rw [e]; simp)
      have := hold (.g i) (fun e => hin (by cases e; rfl))
      simp only [Mp.at_] at this
      rw [this]
      refine hS.gdom i fun ab' hab => ?_
      by_cases e : i = id
      · subst e
        exact h .dead (by simp only [List.mem_append]; exact .inl ((hmem i _).2 (.inl ⟨rfl, rfl⟩)))
      · exact h ab' (by simp only [List.mem_append]; exact .inl ((hmem i _).2 (.inr ⟨e, hab⟩)))
  · rcases old (.g i) ab' h1 h2 with ⟨q1, _, q⟩ | ⟨e, rfl⟩
    · have := hold (.g i) q1
      simp only [Mp.at_] at this
      rw [this] at h3
      exact .inr (.inl ⟨i, ab', q, h2, h3⟩)
    · cases e
      have h4 : (M.putG n b).g n = some b := hself
      rw [h4] at h3
      cases h3
      exact .inr (.inl ⟨id, _, sfind_mem hm, h2, hb⟩)
  · rcases hidm i ab' h with h | rfl
    · exact .inl h
    · exact .inr hgn

/-- The same object, of which less is told. -/
theorem eff_less (hS : St M F U L s w) {id : Nat} {ab ab' : AB} (hm : sfind s id = some ab) (hd : ab ≠ .dead) (h : ∀ b, RB M.glo F w b ab → RB M.glo F w b ab') : Eff M F U s w L (sput s id ab') .undef Go.undef M F U w := by
  have hmem := sput_mem hS.nd (ab := ab') hm
  have old : ∀ r a, Here L (sput s id ab') r a → a ≠ .dead → ∃ a0, Here L s r a0 ∧ a0 ≠ .dead := by
    intro r a h hd'
    cases r with
    | l k => exact ⟨a, h, hd'⟩
    | g i =>
      rcases (hmem i a).1 h with ⟨rfl, _⟩ | ⟨_, h⟩
      · exact ⟨ab, sfind_mem hm, hd⟩
      · exact ⟨a, h, hd'⟩
  have hidm : ∀ i a, (i, a) ∈ sput s id ab' → ∃ ab0, (i, ab0) ∈ s := fun i a h => by
    rcases (hmem i a).1 h with ⟨rfl, _⟩ | ⟨_, h⟩
    · exact ⟨_, sfind_mem hm⟩
    · exact ⟨_, h⟩
  refine ⟨.refl M, fun _ h => h, fun _ h => h, .refl _ _, ?_, .undef _, fun _ h => .inl h, fun k b h => .inr ⟨k, h⟩, fun i a b h1 h2 h3 => ?_, fun i a h => .inl (hidm i a h)⟩
  · refine ⟨fun r a b hr hm' => ?_, fun r r' a1 a2 b h1 h2 d1 d2 m1 m2 => ?_, fun r a b hr hd hm' => ?_, by rw [sput_ids hS.nd hm]; exact hS.nd, hS.FU, hS.Ult, hS.dom, fun i a h => ?_, fun i h => hS.gdom i fun a hab => ?_⟩
    · cases r with
      | l k => exact hS.rb (.l k) a b hr hm'
      | g i =>
        rcases (hmem i a).1 hr with ⟨rfl, rfl⟩ | ⟨_, hr⟩
        · exact h b (hS.rb (.g i) ab b (sfind_mem hm) hm')
        · exact hS.rb (.g i) a b hr hm'
    · obtain ⟨b1, p1, p2⟩ := old r a1 h1 d1
      obtain ⟨b2, q1, q2⟩ := old r' a2 h2 d2
      exact hS.inj r r' b1 b2 b p1 q1 p2 q2 m1 m2
    · obtain ⟨b1, p1, p2⟩ := old r a hr hd
      exact hS.nU r b1 b p1 p2 hm'
    · obtain ⟨a0, h'⟩ := hidm i a h
      exact hS.tot i a0 h'
    · by_cases e : i = id
      · subst e; exact h ab' ((hmem i _).2 (.inl ⟨rfl, rfl⟩))
      · exact h a ((hmem i _).2 (.inr ⟨e, hab⟩))
  · obtain ⟨a0, p1, p2⟩ := old (.g i) a h1 h2
    exact .inr (.inl ⟨i, a0, p1, p2, h3⟩)
theorem sput_same {s : List (Nat × AB)} {id : Nat} {ab : AB} (h : sfind s id = some ab) : sput s id ab = s := by
  induction s with
  | nil => simp [sfind] at h
  | cons x r ih =>
    obtain ⟨i, y⟩ := x
    simp only [sfind] at h
    cases hb : Nat.beq i id with
    | true => rw [hb] at h; cases h; simp [sput, hb]
    | false => rw [hb] at h; simp only [sput, hb]; rw [ih h]

theorem Yields.src {sz : Nat} {u : Value} {rows : List (List DV)} (h : Yields F w sz u rows) (hsz : 0 < sz) {tx e' : TypeId} (hk : P.underlying tx = some (.slice e')) :
    ∃ vals : List Value, Src P sz tx u rows.length vals w ∧ RowV F w sz rows vals ∧ vals.length = rows.length * sz := by
  obtain ⟨A, c, vals, rfl, hc, hl, hr, hcell⟩ := h
  refine ⟨vals, ?_, hr, hl⟩
  cases A with
  | some a =>
    exact Src.ofSlice w hk a _ c vals hl (fun j x hx => by obtain ⟨a', e, q⟩ := hcell j x hx; cases e; exact q) hr.one
  | none =>
    have hz : rows.length = 0 := by
      rcases Nat.eq_zero_or_pos rows.length with e | e
      · exact e
      · exfalso
        have h1 : 0 < vals.length := by rw [hl]; exact Nat.mul_pos e hsz
        obtain ⟨a, q, _⟩ := hcell 0 _ (List.getElem?_eq_getElem h1)
        cases q
    have hv : vals = [] := by
      cases vals with
      | nil => rfl
      | cons x r => rw [hz] at hl; simp at hl
    subst hv
    rw [hz]
    exact Src.ofNil w hk c

/-! ### append -/
theorem nextcap_le (need old : Nat) (h : old < need) : Builtin.nextslicecap need old ≤ 2 * need + 1024 := by
  unfold Builtin.nextslicecap
  split
  · omega
  · split
    · omega
    · have key : ∀ (k c : Nat), c ≤ 2 * need + 1024 → Builtin.growBy need k c ≤ 2 * need + 1024 := by
        intro k
        induction k with
        | zero => intro c h; exact h
        | succ k ih =>
          intro c h
          unfold Builtin.growBy
          split
          · exact h
          · exact ih _ (by omega)
      exact key 4 old (by omega)
theorem run_append_call {x y : Operand} {t t2 : TypeId} (ho : o.op = .call { callee := .builtin .append, args := #[x, y], argTypes := #[t, t2] }) (a : Act) {val : Value} {w' : World}
    (h : (Builtin.append_ #[t, t2] o.type #[a.eval x, a.eval y]).run P w = .ok val w') : (execOp a.eval o).run P w = .ok (.value val) w' := by
  simp only [execOp, ho, resolve, invoke, builtin, Sem.run_bind, Sem.run_pure, Result.andThen_ok, List.map_toArray, List.map_cons, List.map_nil, h]

theorem zeroCells_size (z : Array Value) (n : Nat) : (Builtin.zeroCells z n).size = n * z.size := by simp [Builtin.zeroCells]
theorem zeroCells_mem {z : Array Value} {n : Nat} (hz : ∀ v ∈ z.toList, v.oneCell' = true) : ∀ v ∈ (Builtin.zeroCells z n).toList, v.oneCell' = true := by
  intro v hv
  simp only [Builtin.zeroCells, Array.toList_map, Array.toList_range, List.mem_map, List.mem_range] at hv
  obtain ⟨i, hi, rfl⟩ := hv
  have hpos : 0 < z.size := by
    rcases Nat.eq_zero_or_pos z.size with e | e
    · rw [e] at hi; simp at hi
    · exact e
  have hlt := Nat.mod_lt i hpos
  rw [getElem!_pos z _ hlt]
  exact hz _ (by simp)
theorem TabOK.zeros (hT : TabOK P T) {e : TypeId} {te : TI} (hte : T e = some te) : ∃ i z, P.info? e = some i ∧ i.size = te.size ∧ i.bytes = te.bytes ∧ i.zero = some z ∧ z.cells.size = te.size ∧ ∀ v ∈ z.cells.toList, v.oneCell' = true := by
  obtain ⟨_, _, i, z, zs, q3, q4, q5, q6, q7, q8, q9, _⟩ := hT e te hte
  refine ⟨i, z, q3, q4, q5, q6, by rw [q7]; simpa using q9, fun v hv => ?_⟩
  rw [q7] at hv
  simp only [] at hv
  obtain ⟨j, hj⟩ := List.mem_iff_getElem?.1 hv
  have h1 : (zs.map some)[j]? = some (some v) := by rw [List.getElem?_map, hj]; rfl
  rw [← q8, List.getElem?_map] at h1
  obtain ⟨d, _, hd⟩ := Option.map_eq_some_iff.1 h1
  exact (dconst_RD (N := fun _ => True) (w := ⟨#[], fun _ _ => 0, 0, default, #[]⟩) hd).oneCell

theorem eff_grown (hS : St M F U L s w) {sz n C : Nat} {z : Array Value} {e : TypeId} {rowsA rowsB : List (List DV)} {olds news : List Value} (hz : z.size = sz) (hz1 : ∀ v ∈ z.toList, v.oneCell' = true)
    (hA : RowV F w sz rowsA olds) (hAl : olds.length = rowsA.length * sz) (hB : RowV F w sz rowsB news) (hBl : news.length = rowsB.length * sz) (hn : sfind s n = none) (hC : rowsA.length + rowsB.length ≤ C) :
    Eff M F U s w L (s ++ [(n, .row sz (rowsA ++ rowsB))]) (.slc (.g n) sz 0 (rowsA.length + rowsB.length) C) (.slice (some ⟨w.heap.size, 0, none⟩) (rowsA.length + rowsB.length) C) (M.putG n w.heap.size) F U
      (w.drew.alloc (.cells ((olds ++ news).toArray ++ Builtin.zeroCells z (C - (rowsA.length + rowsB.length))) e)) := by
  have hS1 := (eff_drew hS).st
  have hrow : RowV F w sz (rowsA ++ rowsB) ((olds ++ news).toArray ++ Builtin.zeroCells z (C - (rowsA.length + rowsB.length))).toList := by
    have h1 := hA.append hAl hB
    have h2 := h1.append (by simp [hAl, hBl, Nat.add_mul]) (RowV.nil (F := F) (w := w) (sz := sz) (zeroCells_mem (n := C - (rowsA.length + rowsB.length)) hz1))
    simpa using h2
  have hsize : ((olds ++ news).toArray ++ Builtin.zeroCells z (C - (rowsA.length + rowsB.length))).size = C * sz := by
    have h1 : (rowsA.length + rowsB.length) * sz + (C - (rowsA.length + rowsB.length)) * sz = C * sz := by
      rw [← Nat.add_mul]; congr 1; omega
    rw [Nat.add_mul] at h1
    simp [zeroCells_size, hz, hAl, hBl]
    omega
  have hE := (eff_drew hS).trans (eff_alloc (n := n) (ab := .row sz (rowsA ++ rowsB)) (v := .undef) (val := Go.undef) hS1 (.cells ((olds ++ news).toArray ++ Builtin.zeroCells z (C - (rowsA.length + rowsB.length))) e) hn (fun w' M' _ hX hnew => RB.of_row hnew (hrow.mono (fun _ h => h) (fun b hb => hX.block b (hS.Ult b (hS.FU b hb))))) (fun w' M' _ hm hX => .undef _))
  refine hE.tell ?_
  have := RV.slc (M := M.putG n w.heap.size) (F := F) (w := w.drew.alloc (.cells ((olds ++ news).toArray ++ Builtin.zeroCells z (C - (rowsA.length + rowsB.length))) e)) (.g n) sz 0 (rowsA.length + rowsB.length) C w.heap.size (by simp [Mp.at_, Mp.putG]) hC ⟨e, _, by
    have := heap_alloc_new w.drew (.cells ((olds ++ news).toArray ++ Builtin.zeroCells z (C - (rowsA.length + rowsB.length))) e)
    simp only [World.shape?]
    have hh : w.drew.heap.size = w.heap.size := rfl
    rw [hh] at this
    rw [this], by rw [hsize, Nat.zero_add]; exact Nat.le_refl _⟩
  simpa using this

theorem sfind_sput {s : List (Nat × AB)} {id : Nat} {ab0 ab : AB} (h : sfind s id = some ab0) : sfind (sput s id ab) id = some ab := by
  induction s with
  | nil => simp [sfind] at h
  | cons x r ih =>
    obtain ⟨i, y⟩ := x
    simp only [sfind] at h
    cases hb : Nat.beq i id with
    | true => simp [sput, hb, sfind]
    | false => rw [hb] at h; simp only [sput, hb, sfind]; exact ih h
theorem sfind_sput_ne {s : List (Nat × AB)} {id n : Nat} {ab : AB} (hne : id ≠ n) : sfind (sput s id ab) n = sfind s n := by
  induction s with
  | nil =>
    have : Nat.beq id n = false := by
      cases h : Nat.beq id n with
      | true => exact absurd (beq_t h) hne
      | false => rfl
    simp [sput, sfind, this]
  | cons x r ih =>
    obtain ⟨i, y⟩ := x
    cases hb : Nat.beq i id with
    | true =>
      have hi := beq_t hb
      subst hi
      have : Nat.beq i n = false := by
        cases h : Nat.beq i n with
        | true => exact absurd (beq_t h) hne
        | false => rfl
      simp only [sput, hb, sfind, this]
    | false =>
      simp only [sput, hb, sfind]
      split
      · rfl
      · exact ih
theorem sfind_ne {s : List (Nat × AB)} {id n : Nat} {ab : AB} (h : sfind s id = some ab) (hn : sfind s n = none) : id ≠ n := fun e => by rw [e, hn] at h; cases h
theorem sput_sput {s : List (Nat × AB)} {id : Nat} {a b : AB} : sput (sput s id a) id b = sput s id b := by
  induction s with
  | nil => simp [sput]
  | cons x r ih =>
    obtain ⟨i, y⟩ := x
    cases hb : Nat.beq i id with
    | true => simp [sput, hb]
    | false => simp [sput, hb, ih]
/-- Rows appended to nothing. -/
theorem ej_append_new {t t2 e e2 : TypeId} {ti t2i te : TI} (hT : TabOK P T) (ht : T t = some ti) (hu : ti.u = .slice e) (hte : T e = some te) (ht2 : T t2 = some t2i) (hu2 : t2i.u = .slice e2) (hsz : 0 < te.size)
    {x y : Operand} {n : Nat} {rows : List (List DV)} {K : AV → List AB → List (Nat × AB) → Prop} (ho : o.op = .call { callee := .builtin .append, args := #[x, y], argTypes := #[t, t2] })
    (hx1 : rh x = .d .nil ∨ rh x = .d .emp) (hy : srcK s te.size (rh y) fun q => q = rows) (hn : rows ≠ [] → sfind s n = none) (hbig : (2 * rows.length + 1024) * te.bytes ≤ 281474976710656) (h63 : rows.length ≤ 4611686018427387904)
    (hK0 : rows = [] → K (rh x) L s) (hK : rows ≠ [] → ∀ c, rows.length ≤ c → K (.slc (.g n) te.size 0 rows.length c) L (s ++ [(n, .row te.size rows)])) : EJ P G o rh L s K := by
  intro M F U w a hS hG hx
  have h1 := hx x (by simp [ho, Op.operands, Call.operands])
  have h2 := hx y (by simp [ho, Op.operands, Call.operands])
  obtain ⟨u1, _⟩ := hT t ti ht
  obtain ⟨u2, _⟩ := hT t2 t2i ht2
  rw [hu] at u1
  rw [hu2] at u2
  obtain ⟨i, z, q3, q4, q5, q6, q7, q8⟩ := hT.zeros hte
  obtain ⟨rows', hyl, rfl⟩ := srcK_yields hS h2 hy
  obtain ⟨vals, hsrc, hrow, hvl⟩ := hyl.src hsz u2
  obtain ⟨A, hA⟩ : ∃ A, a.eval x = .slice A 0 0 := by
    rcases hx1 with e | e <;> rw [e] at h1
    · exact ⟨none, h1.nil_inv⟩
    · generalize a.eval x = u at h1
      cases h1 with | d h1 => cases h1 with | emp A => exact ⟨A, rfl⟩
  by_cases hr : rows' = []
  · subst hr
    have hvn : vals = [] := by
      cases vals with
      | nil => rfl
      | cons x r => simp at hvl
    subst hvn
    have hrun : (Builtin.append_ #[t, t2] o.type #[a.eval x, a.eval y]).run P w = .ok (a.eval x) w := by
      rw [hA]
      exact run_append_nothing (P := P) w t t2 o.type e i u1 q3 A 0 0 (Nat.le_refl _) _ (by rw [q4]; exact hsrc)
    refine wp_value (run_append_call ho a hrun) ⟨_, L, s, _, M, F, U, hK0 rfl, rfl, (Eff.same hS).tell h1⟩
  · have hpos : 0 < rows'.length := List.length_pos_iff.2 hr
    have hfit := nextcap_le (0 + rows'.length) 0 (by omega)
    have hfit2 := Nat.mul_le_mul_right te.bytes hfit
    rw [Nat.zero_add] at hfit2
    have hgrow := run_append_grow_src (P := P) w t t2 o.type e i z u1 q3 q6 A 0 0 [] (by cases A with
      | none => exact run_firstCells_none _ _ _ _ _
      | some b => exact run_firstCells_some _ _ _ b _ _ [] (by simp) (fun j v h => by simp at h)) (a.eval y) rows'.length vals (by rw [q4]; exact hsrc) (by omega) (by omega) (by rw [q5, Nat.zero_add]; omega)
    rw [← hA] at hgrow
    have hge := grownCap_ge w (0 + rows'.length) 0 e
    have hE := eff_grown (n := n) (e := e) (C := grownCap w (0 + rows'.length) 0 e) hS q7 q8 (RowV.nil (F := F) (w := w) (sz := te.size) (vals := []) (by simp)) (by simp) hrow hvl (hn hr) (by simpa using hge)
    simp only [List.nil_append, List.length_nil, Nat.zero_add] at hE hgrow
    have hge' : rows'.length ≤ grownCap w rows'.length 0 e := by simpa using hge
    exact wp_value (run_append_call ho a hgrow) ⟨_, L, _, _, _, _, _, hK hr (grownCap w rows'.length 0 e) hge', rfl, hE⟩

/-- Rows appended to rows of our own: behind it they lie under a new name. -/
theorem ej_append_own {t t2 e e2 : TypeId} {ti t2i te : TI} (hT : TabOK P T) (ht : T t = some ti) (hu : ti.u = .slice e) (hte : T e = some te) (ht2 : T t2 = some t2i) (hu2 : t2i.u = .slice e2) (hsz : 0 < te.size)
    {x y : Operand} {n id len cap : Nat} {old rows : List (List DV)} {K : AV → List AB → List (Nat × AB) → Prop} (ho : o.op = .call { callee := .builtin .append, args := #[x, y], argTypes := #[t, t2] })
    (hx1 : rh x = .slc (.g id) te.size 0 len cap) (hid : sfind s id = some (.row te.size old)) (hlen : len ≤ old.length) (hy : srcK s te.size (rh y) fun q => q = rows) (hn : sfind s n = none) (hbig : (2 * (len + rows.length) + 1024) * te.bytes ≤ 281474976710656) (h63 : len + rows.length ≤ 4611686018427387904)
    (hK : ∀ c, len + rows.length ≤ c → K (.slc (.g n) te.size 0 (len + rows.length) c) L (sput s id .dead ++ [(n, .row te.size (old.take len ++ rows))])) : EJ P G o rh L s K := by
  intro M F U w a hS hG hx
  have h1 := hx x (by simp [ho, Op.operands, Call.operands])
  have h2 := hx y (by simp [ho, Op.operands, Call.operands])
  obtain ⟨u1, _⟩ := hT t ti ht
  obtain ⟨u2, _⟩ := hT t2 t2i ht2
  rw [hu] at u1
  rw [hu2] at u2
  obtain ⟨i, z, q3, q4, q5, q6, q7, q8⟩ := hT.zeros hte
  obtain ⟨rows', hyl, rfl⟩ := srcK_yields hS h2 hy
  obtain ⟨vals, hsrc, hrow, hvl⟩ := hyl.src hsz u2
  rw [hx1] at h1
  generalize hax : a.eval x = u at h1
  cases h1 with
  | slc0 _ _ _ A =>
    simp only [List.take_zero, List.nil_append, Nat.zero_add] at hK
    by_cases hr : rows' = []
    · subst hr
      have hvn : vals = [] := by
        cases vals with
        | nil => rfl
        | cons x r => simp at hvl
      subst hvn
      have hrun : (Builtin.append_ #[t, t2] o.type #[a.eval x, a.eval y]).run P w = .ok (.slice A 0 0) w := by
        rw [hax]
        exact run_append_nothing (P := P) w t t2 o.type e i u1 q3 A 0 0 (Nat.le_refl _) _ (by rw [q4]; exact hsrc)
      obtain ⟨b, hb⟩ := hS.tot id _ (sfind_mem hid)
      have hE0 := eff_less (ab' := .row te.size []) hS hid (by simp) (fun b h => by
        obtain ⟨arr, tt, g1, g2⟩ := h.row_of
        exact RB.of_row g1 (.nil g2.one))
      have hE1 := eff_move (n := n) hE0.st (sfind_sput hid) (by rw [sfind_sput_ne (sfind_ne hid hn)]; exact hn) hb (by simp)
      rw [sput_sput] at hE1
      exact wp_value (run_append_call ho a hrun) ⟨_, L, _, _, _, _, _, hK 0 (Nat.zero_le _), rfl, (hE0.trans hE1).tell (.slc0 _ _ _ A)⟩
    · have hpos : 0 < rows'.length := List.length_pos_iff.2 hr
      have hfit := nextcap_le (0 + rows'.length) 0 (by omega)
      have hfit2 := Nat.mul_le_mul_right te.bytes hfit
      rw [Nat.zero_add] at hfit2
      have hgrow := run_append_grow_src (P := P) w t t2 o.type e i z u1 q3 q6 A 0 0 [] (by cases A with
        | none => exact run_firstCells_none _ _ _ _ _
        | some b => exact run_firstCells_some _ _ _ b _ _ [] (by simp) (fun j v h => by simp at h)) (a.eval y) rows'.length vals (by rw [q4]; exact hsrc) (by omega) (by omega) (by rw [q5, Nat.zero_add]; simp only [Nat.zero_add] at hbig; omega)
      rw [← hax] at hgrow
      have hge := grownCap_ge w (0 + rows'.length) 0 e
      have hE0 := eff_kill hS hid
      have hE := eff_grown (n := n) (e := e) (C := grownCap w (0 + rows'.length) 0 e) hE0.st q7 q8 (RowV.nil (F := F) (w := w) (sz := te.size) (vals := []) (by simp)) (by simp) hrow hvl (by rw [sfind_sput_ne (sfind_ne hid hn)]; exact hn) (by simpa using hge)
      simp only [List.nil_append, List.length_nil, Nat.zero_add] at hE hgrow
      have hge' : rows'.length ≤ grownCap w rows'.length 0 e := by simpa using hge
      exact wp_value (run_append_call ho a hgrow) ⟨_, L, _, _, _, _, _, hK (grownCap w rows'.length 0 e) hge', rfl, hE0.trans hE⟩
  | slc _ _ _ _ _ b hm hc hs =>
    obtain ⟨arr, tt, hbk, hold⟩ := (hS.rb (.g id) _ b (sfind_mem hid) hm).row_of
    obtain ⟨tt2, nn, hs1, hs2⟩ := hs
    simp only [World.shape?, hbk, Option.some.injEq, Prod.mk.injEq] at hs1
    obtain ⟨rfl, rfl⟩ := hs1
    obtain ⟨g1, g2, g3⟩ := hold.seg (off := 0) (n := len) (by omega)
    simp only [List.drop_zero, Nat.zero_mul] at g1 g2 g3
    by_cases hroom : len + rows'.length ≤ cap
    · have hroom2 : (len + rows'.length) * te.size ≤ arr.size := Nat.le_trans (Nat.mul_le_mul_right _ (by omega)) hs2
      rw [Nat.add_mul] at hroom2
      have hcell : ∀ j, j < vals.length → (w.cell? ⟨b, 0 * te.size + len * te.size + j, none⟩).isSome = true := fun j hj => by
        have : len * te.size + j < arr.size := by omega
        simp only [World.cell?, hbk]
        simpa using this
      have hfro : ∀ j, j < vals.length → w.frozen? ⟨b, 0 * te.size + len * te.size + j, none⟩ = false := fun j hj => by simp [World.frozen?, hbk]
      have hrun := run_append_room_src (P := P) w t t2 o.type e i u1 q3 b (0 * te.size) len cap (a.eval y) rows'.length vals (by rw [q4]; exact hsrc) hroom (by rw [q4]; exact hcell) (by rw [q4]; exact hfro)
      have hset : w.setCells b (0 * te.size + len * i.size) vals = w.setRow b (setN arr.toList (len * te.size) vals).toArray := by
        have e1 := run_storeCells_cells (P := P) b (0 * te.size + len * te.size) vals 0 w (by simpa using hcell) (by simpa using hfro) hsrc.one
        have e2 := run_storeCells_at (P := P) b (0 * te.size + len * te.size) _ vals 0 arr w hbk (by omega) hsrc.one
        rw [e1] at e2
        have e3 := Result.ok.inj e2
        rw [q4]
        simpa [setN] using e3.2
      rw [hset] at hrun
      rw [← hax] at hrun
      have hrow2 : RowV F w te.size (old.take len ++ rows') (setN arr.toList (len * te.size) vals) := by
        have := (g1.append (by rw [g2, g3]) hrow).append (by simp [g2, hvl, Nat.add_mul, Nat.min_eq_left hlen]) (RowV.nil (F := F) (w := w) (sz := te.size) (vals := arr.toList.drop (len * te.size + vals.length)) (fun v hv => hold.one v (List.mem_of_mem_drop hv)))
        rw [List.append_nil] at this
        exact this
      have hE1 := eff_write hS (.gput (.row te.size (old.take len ++ rows')) hid) (by simp) hm hbk (new := (setN arr.toList (len * te.size) vals).toArray) (by simp only [List.size_toArray]; rw [setN_len (by simp; omega)]; simp) (fun w' hX hnew => RB.of_row hnew (by simpa using hrow2.mono (fun _ h => h) (fun b hb => hX.block b (hS.FU b hb))))
      have hput : sfind (sput s id (.row te.size (old.take len ++ rows'))) id = some (.row te.size (old.take len ++ rows')) := sfind_sput hid
      have hE2 := eff_move (n := n) hE1.st hput (by rw [sfind_sput_ne (sfind_ne hid hn)]; exact hn) hm (by simp)
      rw [sput_sput] at hE2
      refine wp_value (run_append_call ho a hrun) ⟨_, L, _, _, _, _, _, hK cap hroom, rfl, (hE1.trans hE2).tell ?_⟩
      have := RV.slc (M := M.putG n b) (F := F) (w := w.setRow b (setN arr.toList (len * te.size) vals).toArray) (.g n) te.size 0 (len + rows'.length) cap b (by simp [Mp.at_, Mp.putG]) hroom ⟨tt, arr.size, by
        rw [shape_setRow hbk (by simp only [List.size_toArray]; rw [setN_len (by simp; omega)]; simp)]
        simp [World.shape?, hbk], hs2⟩
      exact this
    · have hfit := nextcap_le (len + rows'.length) cap (by omega)
      have hfit2 := Nat.mul_le_mul_right te.bytes hfit
      have hgrow := run_append_grow_src (P := P) w t t2 o.type e i z u1 q3 q6 (some ⟨b, 0 * te.size, none⟩) len cap (arr.toList.take (len * te.size)) (run_firstCells_some _ _ _ _ _ _ _ (by rw [q4]; exact g2) (fun j v h => by
        rw [add_plain]
        rw [List.getElem?_take] at h
        split at h <;> try cases h
        simp only [World.cell?, World.drew, hbk]
        simpa using h)) (a.eval y) rows'.length vals (by rw [q4]; exact hsrc) (by omega) (by omega) (by rw [q5]; omega)
      rw [← hax] at hgrow
      have hge := grownCap_ge w (len + rows'.length) cap e
      have hE0 := eff_kill hS hid
      have hn2 : sfind (sput s id .dead) n = none := by rw [sfind_sput_ne (sfind_ne hid hn)]; exact hn
      have hE := eff_grown (n := n) (e := e) (C := grownCap w (len + rows'.length) cap e) hE0.st q7 q8 g1 (by rw [g2, g3]) hrow hvl hn2 (by rw [g3]; exact hge)
      rw [g3] at hE
      exact wp_value (run_append_call ho a hgrow) ⟨_, L, _, _, _, _, _, hK (grownCap w (len + rows'.length) cap e) hge, rfl, hE0.trans hE⟩

/-! ### Other writes into rows -/
theorem eff_rows {sz : Nat} {id b p : Nat} {rows new : List (List DV)} {nv : List Value} (hS : St M F U L s w) (hid : sfind s id = some (.row sz rows)) (hm : M.g id = some b) (hp : p ≤ rows.length)
    (hnew : RowV F w sz new nv) (hnl : nv.length = new.length * sz) {arr : Array Value} {tt : TypeId} (hbk : w.heap[b]? = some (.cells arr tt (0, 0))) (hfit : p * sz + nv.length ≤ arr.size) (hrow : RowV F w sz rows arr.toList) :
    Eff M F U s w L (sput s id (.row sz (splice rows p new))) .undef Go.undef M F U (w.setRow b (setN arr.toList (p * sz) nv).toArray) := by
  have hr2 := hrow.splice hnew hnl hp
  have hE := eff_write hS (.gput (.row sz (splice rows p new)) hid) (by simp) hm hbk (new := (setN arr.toList (p * sz) nv).toArray) (by simp only [List.size_toArray]; rw [setN_len (by simpa using hfit)]; simp) (fun w' hX hnw => RB.of_row hnw (by simpa using hr2.mono (fun _ h => h) (fun b hb => hX.block b (hS.FU b hb))))
  exact hE.tell (.undef _)
theorem run_cells_row {b o : Nat} {arr : Array Value} {tt : TypeId} (hbk : w.heap[b]? = some (.cells arr tt (0, 0))) {vs : List Value} (hfit : o + vs.length ≤ arr.size) (h1 : ∀ v ∈ vs, v.oneCell' = true) :
    (storeCells ⟨b, o, none⟩ vs 0).run P w = .ok () (w.setRow b (setN arr.toList o vs).toArray) := by
  have := run_storeCells_at (P := P) b o tt vs 0 arr w hbk (by omega) h1
  simpa [setN] using this

/-- Copy. -/
theorem ej_copy {t t2 e e2 : TypeId} {ti t2i te : TI} (hT : TabOK P T) (ht : T t = some ti) (hu : ti.u = .slice e) (hte : T e = some te) (_ht2 : T t2 = some t2i) (_hu2 : t2i.u = .slice e2) (_hsz : 0 < te.size)
    {x y : Operand} {id off len cap l2 : Nat} {old rows : List (List DV)} {K : AV → List AB → List (Nat × AB) → Prop} (ho : o.op = .call { callee := .builtin .copy, args := #[x, y], argTypes := #[t, t2] })
    (hx1 : rh x = .slc (.g id) te.size off len cap) (hid : sfind s id = some (.row te.size old)) (hoff : off ≤ old.length) (hy : srcN s te.size len (rh y) fun a q => a = l2 ∧ q = rows)
    (hK : K (.d (.int .i64 ((min l2 len : Nat) : Int))) L (sput s id (.row te.size (splice old off rows)))) : EJ P G o rh L s K := by
  intro M F U w a hS hG hx
  have h1 := hx x (by simp [ho, Op.operands, Call.operands])
  have h2 := hx y (by simp [ho, Op.operands, Call.operands])
  obtain ⟨u1, _⟩ := hT t ti ht
  rw [hu] at u1
  obtain ⟨i, z, q3, q4, q5, q6, q7, q8⟩ := hT.zeros hte
  obtain ⟨l2', rows', A, c, vals, ⟨rfl, rfl⟩, hay, hrl, hvl, hrow, hcell⟩ := srcN_get hS h2 hy
  have hfc : (Builtin.firstCells te.size (min l2' len) (a.eval y)).run P w = .ok vals.toArray w := by
    rw [hay]
    cases A with
    | some ad => exact run_firstCells_some (P := P) w te.size _ ad _ _ _ (by rw [hvl, hrl]) (fun j v hv => by
        obtain ⟨a', e', q⟩ := hcell j v hv
        cases e'
        exact q)
    | none =>
      have : vals = [] := by
        cases vals with
        | nil => rfl
        | cons v r => obtain ⟨a', e', q⟩ := hcell 0 v rfl; cases e'
      subst this
      simpa using run_firstCells_none (P := P) w te.size (min l2' len) l2' c
  have hlo : ∀ w' : World, (Builtin.lenOf (a.eval y)).run P w' = .ok l2' w' := fun w' => by rw [hay]; rfl
  rw [hx1] at h1
  generalize hax : a.eval x = u at h1
  cases h1 with
  | slc0 _ _ _ B =>
    have hr0 : rows' = [] := List.length_eq_zero_iff.1 (by rw [hrl]; simp)
    subst hr0
    have hv0 : vals = [] := List.length_eq_zero_iff.1 (by rw [hvl]; simp)
    subst hv0
    have hsp : splice old off [] = old := by simp [splice]
    rw [hsp, sput_same hid] at hK
    have hrun : (execOp a.eval o).run P w = .ok (.value (.int .i64 ((min l2' 0 : Nat) : Int))) w := by
      simp only [execOp, ho, resolve, invoke, builtin, Sem.run_bind, Sem.run_pure, Result.andThen_ok, List.map_toArray, List.map_cons, List.map_nil, hax]
      have hfc2 : (Builtin.firstCells te.size 0 (a.eval y)).run P w = .ok #[] w := by simpa using hfc
      cases B <;> simp [Builtin.copy_, run_underlying u1, sizeOf, typeInfo, q3, q4, hlo, hfc2, goInt, storeCells]
    exact wp_value hrun ⟨_, L, _, _, _, _, _, hK, rfl, (Eff.same hS).tell (.d (.int _ _))⟩
  | slc _ _ _ _ _ b hm hc hs =>
    obtain ⟨arr, tt, hbk, hold⟩ := (hS.rb (.g id) _ b (sfind_mem hid) hm).row_of
    obtain ⟨tt2, nn, hs1, hs2⟩ := hs
    simp only [World.shape?, hbk, Option.some.injEq, Prod.mk.injEq] at hs1
    obtain ⟨rfl, rfl⟩ := hs1
    have hfit : off * te.size + vals.length ≤ arr.size := by
      rw [hvl, hrl, ← Nat.add_mul]
      exact Nat.le_trans (Nat.mul_le_mul_right _ (by omega)) hs2
    have hst := run_cells_row (P := P) hbk hfit hrow.one
    have hE := eff_rows hS hid hm hoff hrow hvl hbk hfit hold
    have hrun : (execOp a.eval o).run P w = .ok (.value (.int .i64 ((min l2' len : Nat) : Int))) (w.setRow b (setN arr.toList (off * te.size) vals).toArray) := by
      simp only [execOp, ho, resolve, invoke, builtin, Sem.run_bind, Sem.run_pure, Result.andThen_ok, List.map_toArray, List.map_cons, List.map_nil, hax]
      have hfc2 : (Builtin.firstCells te.size (l2'.min len) (a.eval y)).run P w = .ok vals.toArray w := hfc
      simp [Builtin.copy_, run_underlying u1, sizeOf, typeInfo, q3, q4, hlo, hfc2, hst, goInt]
    exact wp_value hrun ⟨_, L, _, _, _, _, _, hK, rfl, hE.tell (.d (.int _ _))⟩
theorem TabOK.zeroRows (hT : TabOK P T) {e : TypeId} {te : TI} (hte : T e = some te) : ∃ i z, P.info? e = some i ∧ i.size = te.size ∧ i.bytes = te.bytes ∧ i.zero = some z ∧ z.cells.size = te.size ∧ (∀ v ∈ z.cells.toList, v.oneCell' = true) ∧
    ∀ (F : Nat → Prop) (w : World) (c len : Nat), len ≤ c → RowV F w te.size (List.replicate len te.zero) (Builtin.zeroCells z.cells c).toList := by
  obtain ⟨_, _, i, z, zs, q3, q4, q5, q6, q7, q8, q9, _⟩ := hT e te hte
  have hl : te.zero.length = te.size := by
    have := congrArg List.length q8
    simp at this
    omega
  have hone : ∀ v ∈ z.cells.toList, v.oneCell' = true := fun v hv => by
    rw [q7] at hv
    simp only [] at hv
    obtain ⟨j, hj⟩ := List.mem_iff_getElem?.1 hv
    have h1 : (zs.map some)[j]? = some (some v) := by rw [List.getElem?_map, hj]; rfl
    rw [← q8, List.getElem?_map] at h1
    obtain ⟨d, _, hd⟩ := Option.map_eq_some_iff.1 h1
    exact (dconst_RD (N := fun _ => True) (w := ⟨#[], fun _ _ => 0, 0, default, #[]⟩) hd).oneCell
  have hzs : z.cells.size = te.size := by rw [q7]; simpa using q9
  refine ⟨i, z, q3, q4, q5, q6, hzs, hone, fun F w c len hc => ⟨?_, fun i r hi => ?_, zeroCells_mem hone, fun i r j x v hi hj hv => ?_⟩⟩
  · simp [zeroCells_size, hzs]; exact Nat.mul_le_mul_right _ hc
  · rw [List.getElem?_replicate] at hi
    split at hi <;> cases hi
    exact hl
  · rw [List.getElem?_replicate] at hi
    split at hi <;> cases hi
    have hj' : j < te.size := by have := (List.getElem?_eq_some_iff.1 hj).1; omega
    have hk := (List.getElem?_eq_some_iff.1 hv).1
    simp only [Array.length_toList, zeroCells_size, hzs] at hk
    have hv2 : v = z.cells[(i * te.size + j) % z.cells.size]! := by
      simp only [Builtin.zeroCells, Array.toList_map, Array.toList_range, List.getElem?_map] at hv
      rw [List.getElem?_range (by rw [hzs]; exact hk)] at hv
      simpa using hv.symm
    rw [hzs, Nat.mul_comm i, Nat.mul_add_mod, Nat.mod_eq_of_lt hj'] at hv2
    have h2 : zs[j]? = some v := by
      rw [hv2, q7]
      have hlt : j < zs.length := by omega
      rw [getElem!_pos _ _ (by simpa using hlt)]
      simp [List.getElem?_eq_getElem hlt]
    have h1 : (te.zero.map dconst)[j]? = some (some v) := by rw [q8, List.getElem?_map, h2]; rfl
    rw [List.getElem?_map, hj] at h1
    simp only [Option.map_some, Option.some.injEq] at h1
    exact dconst_RD h1
/-- Clear, of rows of our own. -/
theorem ej_clear {t e : TypeId} {ti te : TI} (hT : TabOK P T) (ht : T t = some ti) (hu : ti.u = .slice e) (hte : T e = some te)
    {x : Operand} {id off len cap : Nat} {old : List (List DV)} {K : AV → List AB → List (Nat × AB) → Prop} (ho : o.op = .call { callee := .builtin .clear, args := #[x], argTypes := #[t] })
    (hx1 : rh x = .slc (.g id) te.size off len cap) (hid : sfind s id = some (.row te.size old)) (hoff : off ≤ old.length)
    (hK : K (.tup []) L (sput s id (.row te.size (splice old off (List.replicate len te.zero))))) : EJ P G o rh L s K := by
  intro M F U w a hS hG hx
  have h1 := hx x (by simp [ho, Op.operands, Call.operands])
  obtain ⟨u1, _⟩ := hT t ti ht
  rw [hu] at u1
  obtain ⟨i, z, q3, q4, q5, q6, q7, q8, q9⟩ := hT.zeroRows hte
  rw [hx1] at h1
  generalize hax : a.eval x = u at h1
  cases h1 with
  | slc0 _ _ _ B =>
    have hsp : splice old off (List.replicate 0 te.zero) = old := by simp [splice]
    rw [hsp, sput_same hid] at hK
    have hrun : (execOp a.eval o).run P w = .ok (.value (.tuple #[])) w := by
      simp only [execOp, ho, resolve, invoke, builtin, Sem.run_bind, Sem.run_pure, Result.andThen_ok, List.map_toArray, List.map_cons, List.map_nil, hax]
      cases B <;> simp [Builtin.clear_, run_underlying u1]
    exact wp_value hrun ⟨_, L, _, _, _, _, _, hK, rfl, (Eff.same hS).tell (.tup [] [] rfl (fun j x v hx => by simp at hx))⟩
  | slc _ _ _ _ _ b hm hc hs =>
    obtain ⟨arr, tt, hbk, hold⟩ := (hS.rb (.g id) _ b (sfind_mem hid) hm).row_of
    obtain ⟨tt2, nn, hs1, hs2⟩ := hs
    simp only [World.shape?, hbk, Option.some.injEq, Prod.mk.injEq] at hs1
    obtain ⟨rfl, rfl⟩ := hs1
    have hzr := q9 F w len len (Nat.le_refl _)
    have hzl : (Builtin.zeroCells z.cells len).toList.length = len * te.size := by simp [zeroCells_size, q7]
    have hfit : off * te.size + (Builtin.zeroCells z.cells len).toList.length ≤ arr.size := by
      rw [hzl, ← Nat.add_mul]
      exact Nat.le_trans (Nat.mul_le_mul_right _ (by omega)) hs2
    have hst := run_cells_row (P := P) hbk hfit hzr.one
    have hE := eff_rows hS hid hm hoff hzr (by simpa using hzl) hbk hfit hold
    by_cases hl0 : len = 0
    · subst hl0
      have hid2 : setN arr.toList (off * te.size) (Builtin.zeroCells z.cells 0).toList = arr.toList := by
        have : (Builtin.zeroCells z.cells 0).toList = [] := List.length_eq_zero_iff.1 (by simpa using hzl)
        simp [this, setN]
      rw [hid2, setRow_self w b _ tt (0, 0) (by simpa using hbk)] at hE
      have hrun : (execOp a.eval o).run P w = .ok (.value (.tuple #[])) w := by
        simp only [execOp, ho, resolve, invoke, builtin, Sem.run_bind, Sem.run_pure, Result.andThen_ok, List.map_toArray, List.map_cons, List.map_nil, hax]
        simp [Builtin.clear_, run_underlying u1]
      exact wp_value hrun ⟨_, L, _, _, _, _, _, hK, rfl, hE.tell (.tup [] [] rfl (fun j x v hx => by simp at hx))⟩
    · have hrun : (execOp a.eval o).run P w = .ok (.value (.tuple #[])) (w.setRow b (setN arr.toList (off * te.size) (Builtin.zeroCells z.cells len).toList).toArray) := by
        simp only [execOp, ho, resolve, invoke, builtin, Sem.run_bind, Sem.run_pure, Result.andThen_ok, List.map_toArray, List.map_cons, List.map_nil, hax]
        cases len with
        | zero => exact absurd rfl hl0
        | succ len => simp [Builtin.clear_, run_underlying u1, zeroValue, typeInfo, q3, q6, hst]
      exact wp_value hrun ⟨_, L, _, _, _, _, _, hK, rfl, hE.tell (.tup [] [] rfl (fun j x v hx => by simp at hx))⟩

/-- A store into an element of rows of our own. -/
theorem ej_store_el {t : TypeId} {ti : TI} (hT : TabOK P T) (ht : T t = some ti) {x y : Operand} {id sz i j : Nat} {rows : List (List DV)} {row xs : List DV} {K : AV → List AB → List (Nat × AB) → Prop} (ho : o.op = .store t x y)
    (hx1 : rh x = .el (.g id) sz i j) (hid : sfind s id = some (.row sz rows)) (hrow : rows[i]? = some row) (hb : boxable (rh y) = true) (hxs : undD (rh y).cells = some xs) (hsz : xs.length = ti.size) (hin : j + ti.size ≤ sz)
    (hK : K .undef L (sput s id (.row sz (rows.set i (setN row j xs))))) : EJ P G o rh L s K := by
  intro M F U w a hS hG hx
  have h1 := hx x (by simp [ho, Op.operands])
  have h2 := hx y (by simp [ho, Op.operands])
  rw [hx1] at h1
  have hc := h2.cells (fun vs e => by rw [e] at hb; simp [boxable] at hb) (fun e => by rw [e] at hb; simp [boxable] at hb)
  have hcs := undD_map hxs
  rw [hcs] at hc
  generalize he : a.eval x = u at h1
  cases h1 with
  | el _ _ _ _ b hm =>
    obtain ⟨arr, tt, hbk, hold⟩ := (hS.rb (.g id) _ b (sfind_mem hid) hm).row_of
    have hil := (List.getElem?_eq_some_iff.1 hrow).1
    have hrl := hold.len i row hrow
    have hle := hold.le
    have hfit : i * sz + j + ti.size ≤ arr.size := by
      have h3 : (i + 1) * sz ≤ rows.length * sz := Nat.mul_le_mul_right _ hil
      rw [Nat.add_mul, Nat.one_mul] at h3
      simp at hle
      omega
    have hrun := run_store_cells hT ht hbk (v := a.eval y) (off := i * sz + j) (by rw [hc.1]; simpa using hsz) hfit (fun k u hu => by
      have hk : k < (xs.map AV.d).length := by have := (Array.getElem?_eq_some_iff.1 hu).1; omega
      exact (hc.2 k _ u (List.getElem?_eq_getElem hk) hu).1)
    have hvl : (a.eval y).cells.toList.length = ti.size := by simp [hc.1, hsz]
    have hr2 : RowV F w sz (rows.set i (setN row j xs)) (setN arr.toList (i * sz + j) (a.eval y).cells.toList) := by
      have hxl : (setN row j xs).length = sz := by rw [setN_len (by omega)]; exact hrl
      refine ⟨?_, fun k r hk => ?_, fun v hv => ?_, fun k r l x v hk hl hv => ?_⟩
      · rw [setN_len (by simp [hvl]; omega)]; simpa using hle
      · rw [List.getElem?_set] at hk
        split at hk
        · rename_i e
          subst e
          first
            | (rw [if_pos hil] at hk; cases hk; exact hxl)
            | (cases hk; exact hxl)
        · exact hold.len k r hk
      · unfold setN at hv
        simp only [List.mem_append] at hv
        rcases hv with (hv | hv) | hv
        · exact hold.one v (List.mem_of_mem_take hv)
        · obtain ⟨k, hk⟩ := List.mem_iff_getElem?.1 hv
          have hkl : k < (xs.map AV.d).length := by have := (List.getElem?_eq_some_iff.1 hk).1; simp [hvl] at this; simp [hsz]; exact this
          exact (hc.2 k _ v (List.getElem?_eq_getElem hkl) (by simpa using hk)).1
        · exact hold.one v (List.mem_of_mem_drop hv)
      · rw [setN_get (by simp [hvl]; omega)] at hv
        simp only [hvl] at hv
        rw [List.getElem?_set] at hk
        by_cases hki : i = k
        · subst hki
          rw [if_pos rfl] at hk
          first
            | (rw [if_pos hil] at hk; cases hk)
            | cases hk
          rw [setN_get (by omega)] at hl
          have hlsz : l < sz := by
            by_cases hh : j ≤ l ∧ l < j + xs.length
            · omega
            · rw [if_neg hh] at hl
              have := (List.getElem?_eq_some_iff.1 hl).1
              omega
          by_cases hh : j ≤ l ∧ l < j + xs.length
          · rw [if_pos hh] at hl
            rw [if_pos (by omega)] at hv
            have e1 : i * sz + l - (i * sz + j) = l - j := by omega
            rw [e1] at hv
            have := (hc.2 (l - j) (.d x) v (by rw [List.getElem?_map, hl]; rfl) (by simpa using hv)).2
            cases this with | d h => exact h
          · rw [if_neg hh] at hl
            rw [if_neg (by omega)] at hv
            exact hold.rd i row l x v hrow hl hv
        · rw [if_neg hki] at hk
          have hkl := (List.getElem?_eq_some_iff.1 hk).1
          have hll : l < sz := by have := (List.getElem?_eq_some_iff.1 hl).1; have := hold.len k r hk; omega
          have hout : ¬ (i * sz + j ≤ k * sz + l ∧ k * sz + l < i * sz + j + ti.size) := by
            rcases Nat.lt_or_gt_of_ne hki with hlt | hlt
            · have : (i + 1) * sz ≤ k * sz := Nat.mul_le_mul_right _ hlt
              rw [Nat.add_mul, Nat.one_mul] at this
              omega
            · have : (k + 1) * sz ≤ i * sz := Nat.mul_le_mul_right _ hlt
              rw [Nat.add_mul, Nat.one_mul] at this
              omega
          rw [if_neg hout] at hv
          exact hold.rd k r l x v hk hl hv
    have hE := eff_write hS (.gput (.row sz (rows.set i (setN row j xs))) hid) (by simp) hm hbk (new := (setN arr.toList (i * sz + j) (a.eval y).cells.toList).toArray) (by simp only [List.size_toArray]; rw [setN_len (by simp [hvl]; omega)]; simp) (fun w' hX hnw => RB.of_row hnw (by simpa using hr2.mono (fun _ h => h) (fun b hb => hX.block b (hS.FU b hb))))
    refine wp_skip' (w' := w.setRow b (setN arr.toList (i * sz + j) (a.eval y).cells.toList).toArray) ?_ ⟨.undef, L, _, Go.undef, M, F, U, hK, rfl, hE.tell (.undef _)⟩
    simp only [execOp, ho, he, Sem.run_bind, hrun, Result.andThen_ok, Sem.run_pure]

/-- Memory made for rows. -/
theorem ej_makeSlice {t e : TypeId} {ti te : TI} (hT : TabOK P T) (ht : T t = some ti) (hu : ti.u = .slice e) (hte : T e = some te) {x y : Operand} {n len cap : Nat} {k1 k2 : IntKind} {K : AV → List AB → List (Nat × AB) → Prop} (ho : o.op = .makeSlice t x y)
    (hx1 : rh x = .d (.int k1 len)) (hy1 : rh y = .d (.int k2 cap)) (hlc : len ≤ cap) (hbig : cap * te.bytes ≤ 281474976710656) (hcap : cap ≤ 4611686018427387904) (hn : sfind s n = none)
    (hK : K (.slc (.g n) te.size 0 len cap) L (s ++ [(n, .row te.size (List.replicate len te.zero))])) : EJ P G o rh L s K := by
  intro M F U w a hS hG hx
  have h1 := hx x (by simp [ho, Op.operands])
  have h2 := hx y (by simp [ho, Op.operands])
  rw [hx1] at h1
  rw [hy1] at h2
  obtain ⟨u1, _⟩ := hT t ti ht
  rw [hu] at u1
  obtain ⟨i, z, q3, q4, q5, q6, q7, q8, q9⟩ := hT.zeroRows hte
  have hrow := q9 F w cap len hlc
  have hE := eff_alloc (n := n) (ab := .row te.size (List.replicate len te.zero)) (v := .undef) (val := Go.undef) hS (.cells (Builtin.zeroCells z.cells cap) e) hn (fun w' M' _ hX hnew => RB.of_row hnew (hrow.mono (fun _ h => h) (fun b hb => hX.block b (hS.Ult b (hS.FU b hb))))) (fun w' M' _ hm hX => .undef _)
  have hrv := RV.slc (M := M.putG n w.heap.size) (F := F) (w := w.alloc (.cells (Builtin.zeroCells z.cells cap) e)) (.g n) te.size 0 len cap w.heap.size (by simp [Mp.at_, Mp.putG]) hlc ⟨e, (Builtin.zeroCells z.cells cap).size, by
    simp only [World.shape?, heap_alloc_new], by simp [zeroCells_size, q7]⟩
  have hrun : (execOp a.eval o).run P w = .ok (.value (.slice (some ⟨w.heap.size, 0 * te.size, none⟩) len cap)) (w.alloc (.cells (Builtin.zeroCells z.cells cap) e)) := by
    have e1 := h1.int_inv
    have e2 := h2.int_inv
    have hb' : (i.bytes : Int) * (cap : Int) ≤ 281474976710656 := by
      rw [q5]
      have h : ((te.bytes * cap : Nat) : Int) ≤ 281474976710656 := by rw [Nat.mul_comm]; omega
      rwa [Int.natCast_mul] at h
    have hr := run_make (P := P) w t e i z u1 q3 q6 k1 k2 len cap (by omega) (by omega) hb' (by omega)
    have hmc : madeCells z.cells (cap * i.size) = Builtin.zeroCells z.cells cap := by
      unfold madeCells Builtin.zeroCells
      rw [q4, q7]
    simp only [Int.toNat_natCast] at hr
    rw [hmc] at hr
    simp only [execOp, ho, e1, e2, Sem.run_bind, hr, Result.andThen_ok, Sem.run_pure, Nat.zero_mul]
  exact wp_value hrun ⟨_, L, _, _, _, _, _, hK, rfl, hE.tell hrv⟩

/-- Is a slice nil? Where that is not told, either may be. -/
def nilK (x : AV) (K : Bool → Prop) : Prop := match x with
  | .d .nil => K true
  | .d (.list _ rows) => match rows with
    | [] => K true ∧ K false
    | _ :: _ => K false
  | .d .emp => K true ∧ K false
  | .slc _ _ _ _ _ => K true ∧ K false
  | _ => False
theorem both {K : Bool → Prop} (h : K true ∧ K false) (b : Bool) : K b := by
  cases b with
  | true => exact h.1
  | false => exact h.2
theorem ej_isnil {op : BinOp} {t e ty : TypeId} {ti : TI} (hT : TabOK P T) (ht : T t = some ti) (hu : ti.u = .slice e) {x : Operand} {K : AV → List AB → List (Nat × AB) → Prop} (ho : o.op = .binOp op t x (.const (.slice none 0 0)) ty) (hop : op = .eql ∨ op = .neq)
    (hK : nilK (rh x) fun b => K (.d (.bool (if op = .eql then b else !b))) L s) : EJ P G o rh L s K := by
  intro M F U w a hS hG hx
  have h1 := hx x (by simp [ho, Op.operands])
  obtain ⟨u1, _⟩ := hT t ti ht
  rw [hu] at u1
  have h3 : ∃ A m c, a.eval x = .slice A m c ∧ K (.d (.bool (if op = .eql then A.isNone else !A.isNone))) L s := by
    generalize a.eval x = u at h1
    unfold nilK at hK
    split at hK <;> try exact hK.elim
    · rename_i e1; rw [e1] at h1
      exact ⟨none, _, _, h1.nil_inv, hK⟩
    · rename_i e1; rw [e1] at h1
      split at hK
      · cases h1 with | d h1 => cases h1 with
        | empty _ A c => exact ⟨A, _, _, rfl, both (K := fun b => K (.d (.bool (if op = .eql then b else !b))) L s) hK _⟩
        | list _ _ ad c u hc hN hl hm hr => exact ⟨some ad, _, _, rfl, both (K := fun b => K (.d (.bool (if op = .eql then b else !b))) L s) hK _⟩
      · cases h1 with | d h1 => cases h1 with
        | list _ _ ad c u hc hN hl hm hr => exact ⟨some ad, _, _, rfl, hK⟩
    · rename_i e1; rw [e1] at h1
      cases h1 with | d h1 => cases h1 with | emp A => exact ⟨A, _, _, rfl, both (K := fun b => K (.d (.bool (if op = .eql then b else !b))) L s) hK _⟩
    · rename_i e1; rw [e1] at h1
      cases h1 with
      | slc _ _ _ _ _ b hm hc hs => exact ⟨_, _, _, rfl, both (K := fun b => K (.d (.bool (if op = .eql then b else !b))) L s) hK _⟩
      | slc0 _ _ _ A => exact ⟨A, _, _, rfl, both (K := fun b => K (.d (.bool (if op = .eql then b else !b))) L s) hK _⟩
  obtain ⟨A, m, c, he, hKA⟩ := h3
  have hrun : (execOp a.eval o).run P w = .ok (.value (.bool (if op = .eql then A.isNone else !A.isNone))) w := by
    have hc2 : a.eval (.const (.slice none 0 0)) = .slice none 0 0 := rfl
    have heq : (Op.equal t (.slice A m c) (.slice none 0 0)).run P w = .ok A.isNone w := by
      rw [show Op.equal t (.slice A m c) (.slice none 0 0) = Op.equalIn (9999 + 1) t (.slice A m c) (.slice none 0 0) from rfl]
      generalize 9999 = d
      cases A <;> simp [Op.equalIn, run_underlying' u1]
    have hg := run_eqGuard' (P := P) (w := w) (op := op) (t := t) (x := x) (y := .const (.slice none 0 0)) (a := .slice A m c) (b := .slice none 0 0) (fun cs e => by cases e) (fun e => by cases e)
    rcases hop with rfl | rfl
    · simp only [execOp, ho, hc2, he, Sem.run_bind, hg, Result.andThen_ok]
      rw [show binOp .eql t (.slice A m c) (.slice none 0 0) = (do pure (.bool (← Op.equal t (.slice A m c) (.slice none 0 0))) : Sem Value) from rfl, Sem.run_bind, heq]
      rfl
    · simp only [execOp, ho, hc2, he, Sem.run_bind, hg, Result.andThen_ok]
      rw [show binOp .neq t (.slice A m c) (.slice none 0 0) = (do pure (.bool (!(← Op.equal t (.slice A m c) (.slice none 0 0)))) : Sem Value) from rfl, Sem.run_bind, heq]
      rfl
  exact wp_value hrun ⟨_, L, _, _, M, F, U, hKA, rfl, (Eff.same hS).tell (.d (.bool _))⟩

/-- Room made behind rows: there is none yet. -/
theorem ej_append_zeros {t t2 e : TypeId} {ti t2i te : TI} {kn ky : IntKind} (hT : TabOK P T) (ht : T t = some ti) (hu : ti.u = .slice e) (hte : T e = some te) (ht2 : T t2 = some t2i) (hu2 : t2i.u = .int kn) (hsz : 0 < te.size)
    {x y : Operand} {n id off len cap k : Nat} {old : List (List DV)} {K : AV → List AB → List (Nat × AB) → Prop} (ho : o.op = .call { callee := .builtin .append, args := #[x, y], argTypes := #[t, t2] })
    (hx1 : rh x = .slc (.g id) te.size off len cap) (hid : sfind s id = some (.row te.size old)) (hle : off + len ≤ old.length) (hy1 : rh y = .d (.int ky k)) (hk : 0 < k) (hg : cap < len + k) (hn : sfind s n = none) (hbig : (2 * (len + k) + 1024) * te.bytes ≤ 281474976710656) (h63 : len + k ≤ 4611686018427387904)
    (hK : ∀ c, len + k ≤ c → K (.slc (.g n) te.size 0 (len + k) c) L (s ++ [(n, .row te.size ((old.drop off).take len ++ List.replicate k te.zero))])) : EJ P G o rh L s K := by
  intro M F U w a hS hG hx
  have h1 := hx x (by simp [ho, Op.operands, Call.operands])
  have h2 := hx y (by simp [ho, Op.operands, Call.operands])
  obtain ⟨u1, _⟩ := hT t ti ht
  obtain ⟨u2, _⟩ := hT t2 t2i ht2
  rw [hu] at u1
  rw [hu2] at u2
  obtain ⟨i, z, q3, q4, q5, q6, q7, q8, q9⟩ := hT.zeroRows hte
  rw [hy1] at h2
  have hy2 := h2.int_inv
  have hsk : srcK s te.size (rh x) (fun q => q = (old.drop off).take len) := by
    have hbb : (Nat.beq te.size te.size && Nat.beq te.size te.size) = true := by simp
    simp only [srcK, hx1, hid, hbb]
    exact ⟨hle, trivial⟩
  have hx0 : RV M F w (rh x) (a.eval x) := h1
  obtain ⟨rows', hyl, he⟩ := srcK_yields (sz := te.size) hS hx0 hsk
  subst he
  have hlen : ((old.drop off).take len).length = len := by simp; omega
  obtain ⟨A, c0, vals, hax, hc0, hvl, hrow, hcell⟩ := hyl
  rw [hlen] at hax hvl
  rw [hx1] at h1
  have hcap : c0 = cap := by
    rw [hax] at h1
    cases h1 with
    | slc _ _ _ _ _ b hm hc hs => rfl
    | slc0 _ _ _ A => rfl
  subst hcap
  have hfit := nextcap_le (len + k) c0 (by omega)
  have hfit2 := Nat.mul_le_mul_right te.bytes hfit
  have hkb : k * te.bytes ≤ 281474976710656 := Nat.le_trans (Nat.mul_le_mul_right _ (by omega)) hbig
  have hgrow := Lib.run_append_grow_zeros (P := P) w t t2 o.type e i z ky kn u1 u2 q3 q6 A len c0 vals (by
    cases A with
    | some ad => exact run_firstCells_some _ _ _ ad _ _ _ (by rw [q4]; exact hvl) (fun j v hv => by
        obtain ⟨a', e', q⟩ := hcell j v hv
        cases e'
        exact q)
    | none =>
      have : vals = [] := by
        cases vals with
        | nil => rfl
        | cons v r => obtain ⟨a', e', q⟩ := hcell 0 v rfl; cases e'
      subst this
      exact run_firstCells_none _ _ _ _ _) k hk (by rw [q4]; exact hsz) hg (by omega) (by rw [q5]; exact hkb) (by rw [q5]; omega)
  rw [← hax, ← hy2] at hgrow
  have hge := grownCap_ge w (len + k) c0 e
  have hzr := q9 F w k k (Nat.le_refl _)
  have hE := eff_grown (n := n) (e := e) (C := grownCap w (len + k) c0 e) hS q7 q8 hrow (by rw [hvl, hlen]) hzr (by simp [zeroCells_size, q7]) hn (by simpa [hlen] using hge)
  rw [hlen, List.length_replicate] at hE
  have harr : (vals ++ (Builtin.zeroCells z.cells k).toList).toArray ++ Builtin.zeroCells z.cells (grownCap w (len + k) c0 e - (len + k)) = vals.toArray ++ Builtin.zeroCells z.cells k ++ Builtin.zeroCells z.cells (grownCap w (len + k) c0 e - (len + k)) := by
    apply Array.ext'
    simp
  rw [harr] at hE
  exact wp_value (run_append_call ho a hgrow) ⟨_, L, _, _, _, _, _, hK (grownCap w (len + k) c0 e) hge, rfl, hE⟩

theorem run_overlaps_apart2 {P : Program} (w : World) (tS tR e : TypeId) (ht : P.underlying tS = some (.slice e)) (size : Nat) (hz : ∀ w, (Go.sizeOf e).run P w = .ok size w)
    (a b : Addr) (la ca lb cb : Nat) (hne : a.block ≠ b.block) (tA tB : TypeId) (kA kB : Nat)
    (hsa : w.shape? a.block = some (tA, kA)) (hsb : w.shape? b.block = some (tB, kB)) (hkA : kA ≠ 0)
    (hfb : w.frozen? b = false) (hfe : w.frozen? { block := b.block, off := kB } = false) :
    (Extern.SlicesOverlaps.overlaps #[tS, tS] #[tR] #[.slice (some a) la ca, .slice (some b) lb cb]).run P w = .ok (.bool false) w := by
  have hnb : (a.block != b.block) = true := by simpa using hne
  have hnb' : (a.block == b.block) = false := by simpa using hne
  change Sem.run P (α := Value) (do
    let some t := (#[tS, tS] : Array TypeId)[0]? | stuck "slices.overlaps: no parameter types"
    let .slice elem ← underlying t | stuck "slices.overlaps: slice type expected"
    let size ← sizeOf elem
    match (some a : Option Addr), (some b : Option Addr) with
    | some a, some b =>
      if la = 0 ∨ lb = 0 ∨ size = 0 then pure (Value.bool false)
      else if a.block != b.block && (← frozen a) && (← frozen b) then unsupported .addressObserved
      else do
        if a.block != b.block then do
          noView a; noView b
          if ← mayBeOne a b then return Value.bool ((← choose (.extern "sameAddr.stringBytes" 2)) == 1)
        pure (Value.bool (a.block == b.block && a.off < b.off + lb * size && b.off < a.off + la * size))
    | _, _ => pure (Value.bool false)) w = _
  by_cases h0 : la = 0 ∨ lb = 0 ∨ size = 0
  · simp [run_underlying ht, hz, h0]
  · cases kA with
    | zero => exact absurd rfl hkA
    | succ kA =>
      cases hfa : w.frozen? a <;> cases hfg : w.frozen? { block := a.block, off := kA + 1 } <;>
        simp [run_underlying ht, hz, h0, hnb, hnb', frozen, noView, viewAt, mayBeOne, stringish, shape, Sem.run, hsa, hsb, hfb, hfe, hfa, hfg]
/-- Two slices of which one is ours and the other one is data, or has nothing in it. -/
theorem ej_overlaps {f : Nat} {c : Operand} {tys : Array TypeId} {t tr e : TypeId} {ti te : TI} (hT : TabOK P T) (ht : T t = some ti) (hu : ti.u = .slice e) (hte : T e = some te)
    (hov : ∀ (x y : Value) (w : World), (callFunc f #[x, y]).run P w = ((Extern.SlicesOverlaps.overlaps #[t, t] #[tr] #[x, y]).run P w).andThen fun v w' => .ok (.value v) w')
    {x y : Operand} {id sz off len cap : Nat} {rows old : List (List DV)} {K : AV → List AB → List (Nat × AB) → Prop} (ho : o.op = .call { callee := .value c, args := #[x, y], argTypes := tys }) (hc : rh c = .fn f [])
    (hx1 : rh x = .d (.list sz rows)) (hsz : 0 < sz) (hy1 : rh y = .slc (.g id) te.size off len cap) (hid : sfind s id = some (.row te.size old)) (hK : K (.d (.bool false)) L s) : EJ P G o rh L s K := by
  intro M F U w a hS hG hx
  have h0 := hx c (by simp [ho, Op.operands, Call.operands])
  have h1 := hx x (by simp [ho, Op.operands, Call.operands])
  have h2 := hx y (by simp [ho, Op.operands, Call.operands])
  rw [hc] at h0
  rw [hx1] at h1
  rw [hy1] at h2
  obtain ⟨u1, _⟩ := hT t ti ht
  rw [hu] at u1
  obtain ⟨_, _, i, _, _, h4, h5, _⟩ := hT e te hte
  have hcall : (execOp a.eval o).run P w = (callFunc f #[a.eval x, a.eval y]).run P w := by
    generalize hfv : a.eval c = fc at h0
    cases h0 with
    | fn _ cs vs hl h =>
      have hvs : vs = [] := List.length_eq_zero_iff.1 (by simpa using hl)
      subst hvs
      simp only [execOp, ho, resolve, hfv, Deferred.ofValue, Sem.run_bind, Sem.run_pure, Result.andThen_ok, invoke]
      simp
  have hres : (Extern.SlicesOverlaps.overlaps #[t, t] #[tr] #[a.eval x, a.eval y]).run P w = .ok (.bool false) w := by
    have hzz : ∀ w : World, (Go.sizeOf e).run P w = .ok te.size w := fun w => by rw [run_sizeOf' h4, h5]
    generalize a.eval x = X at h1
    generalize a.eval y = Y at h2
    have short : ∀ (A B : Option Addr) (la ca lb cb : Nat), la = 0 ∨ lb = 0 → (Extern.SlicesOverlaps.overlaps #[t, t] #[tr] #[.slice A la ca, .slice B lb cb]).run P w = .ok (.bool false) w := by
      intro A B la ca lb cb h0
      change Sem.run P (α := Value) (do
        let some t := (#[t, t] : Array TypeId)[0]? | stuck "slices.overlaps: no parameter types"
        let .slice elem ← underlying t | stuck "slices.overlaps: slice type expected"
        let size ← sizeOf elem
        match A, B with
        | some a, some b =>
          if la = 0 ∨ lb = 0 ∨ size = 0 then pure (Value.bool false)
          else if a.block != b.block && (← frozen a) && (← frozen b) then unsupported .addressObserved
          else do
            if a.block != b.block then do
              noView a; noView b
              if ← mayBeOne a b then return Value.bool ((← choose (.extern "sameAddr.stringBytes" 2)) == 1)
            pure (Value.bool (a.block == b.block && a.off < b.off + lb * size && b.off < a.off + la * size))
        | _, _ => pure (Value.bool false)) w = _
      have h0' : la = 0 ∨ lb = 0 ∨ te.size = 0 := by rcases h0 with h | h <;> simp [h]
      cases A <;> cases B <;> simp [run_underlying u1, hzz, h0']
    cases h1 with | d h1 =>
    have hY : ∃ B lb cb, Y = .slice B lb cb ∧ (lb = 0 ∨ ∃ b oo arr tt, B = some ⟨b, oo, none⟩ ∧ w.heap[b]? = some (.cells arr tt (0, 0)) ∧ ¬ U b) := by
      cases h2 with
      | slc0 _ _ _ B => exact ⟨B, 0, 0, rfl, .inl rfl⟩
      | slc _ _ _ _ _ b hm hcc hs =>
        obtain ⟨arr, tt, hbk, _⟩ := (hS.rb (.g id) _ b (sfind_mem hid) hm).row_of
        exact ⟨_, _, _, rfl, .inr ⟨b, _, arr, tt, rfl, hbk, hS.nU (.g id) _ b (sfind_mem hid) (by simp) hm⟩⟩
    obtain ⟨B, lb, cb, rfl, hB⟩ := hY
    cases h1 with
    | empty _ A c => exact short A B 0 c lb cb (.inl rfl)
    | list _ _ ad c uu hcc hN hln hm hr =>
      rcases hB with rfl | ⟨b, oo, arr, tt, rfl, hbk, hnU⟩
      · exact short _ B _ c 0 cb (.inr rfl)
      · by_cases hr0 : rows = []
        · subst hr0; exact short _ _ _ c lb cb (.inl rfl)
        · have hpos : 0 < rows.length := List.length_pos_iff.2 hr0
          have hne : ad.block ≠ b := fun e => hnU (e ▸ hS.FU _ hN)
          have hcell := hm 0 0 hpos hsz
          have hshape : ∃ tA kA, w.shape? ad.block = some (tA, kA) ∧ kA ≠ 0 := by
            unfold World.cell? at hcell
            rw [block_of_add] at hcell
            unfold World.shape?
            split at hcell
            · rename_i cc ee ff hh
              refine ⟨ee, cc.size, rfl, fun h0 => ?_⟩
              split at hcell
              · cases hcell
              · have := (Array.getElem?_eq_some_iff.1 hcell).1; omega
            · cases hcell
          obtain ⟨tA, kA, hsa, hkA⟩ := hshape
          obtain ⟨kA, rfl⟩ : ∃ k, kA = k + 1 := ⟨kA - 1, by omega⟩
          have hsb : w.shape? b = some (tt, arr.size) := by simp [World.shape?, hbk]
          have hfb : ∀ off, w.frozen? ⟨b, off, none⟩ = false := fun off => by simp [World.frozen?, hbk]
          have hnb : (ad.block != b) = true := by simpa using hne
          have hnb' : (ad.block == b) = false := by simpa using hne
          exact run_overlaps_apart2 w t tr e u1 te.size hzz ad ⟨b, oo, none⟩ rows.length c lb cb hne tA tt (kA + 1) arr.size hsa hsb (by simp) (hfb _) (hfb _)
  refine wp_value (val := .bool false) (w' := w) ?_ ⟨_, L, s, _, M, F, U, hK, rfl, (Eff.same hS).tell (.d (.bool _))⟩
  rw [hcall, hov, hres]
  rfl
end
end Go.Pv
