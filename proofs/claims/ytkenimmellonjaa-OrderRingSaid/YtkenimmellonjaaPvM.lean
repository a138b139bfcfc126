/- Operations that write: stores; calls of whatever kind. -/
import Derived.Test.YtkenimmellonjaaPvL
namespace Go.Pv
open Go.RowKit

structure Eff (M : Mp) (F U : Nat → Prop) (s : List (Nat × AB)) (w : World) (L' : List AB) (s' : List (Nat × AB)) (v : AV) (val : Value) (M' : Mp) (F' U' : Nat → Prop) (w' : World) : Prop where
  le : M.Le M'
  FF : ∀ b, F b → F' b
  UU : ∀ b, U b → U' b
  ext : Ext U w w'
  st : St M' F' U' L' s' w'
  rv : RV M' F' w' v val
  Fn : ∀ b, F' b → F b ∨ w.heap.size ≤ b ∨ LiveG M.g s b ∨ ∃ k, M.l k = some b
  ll : ∀ k b, M'.l k = some b → w.heap.size ≤ b ∨ ∃ k', M.l k' = some b
  lg : ∀ id ab b, (id, ab) ∈ s' → ab ≠ .dead → M'.g id = some b → w.heap.size ≤ b ∨ LiveG M.g s b ∨ ∃ k, M.l k = some b
  ids : ∀ id ab, (id, ab) ∈ s' → (∃ ab0, (id, ab0) ∈ s) ∨ M.g id = none

def EJ (P : Program) (G : Gl) (o : Oper) (rh : Operand → AV) (L : List AB) (s : List (Nat × AB)) (K : AV → List AB → List (Nat × AB) → Prop) : Prop :=
  ∀ (M : Mp) (F U : Nat → Prop) (w : World) (a : Act), St M F U L s w → Glob G F w → (∀ x ∈ o.op.operands.toList, RV M F w (rh x) (a.eval x)) →
    o.wp P a w (fun a' w' => ∃ v L' s' val M' F' U', K v L' s' ∧ a' = a.put o.dst val ∧ Eff M F U s w L' s' v val M' F' U' w') (fun _ _ _ => False)

section
variable {P : Program} {G : Gl} {T : Nat → Option TI} {o : Oper} {rh : Operand → AV} {L : List AB} {s : List (Nat × AB)} {M : Mp} {F U : Nat → Prop} {w : World}

/-- A place's contents put anew. -/
inductive Put (ab0 ab1 : AB) : List AB → List (Nat × AB) → Rf → List AB → List (Nat × AB) → Prop
  | l (L : List AB) (s : List (Nat × AB)) (k : Nat) (h : L[k]? = some ab0) : Put ab0 ab1 L s (.l k) (L.set k ab1) s
  | g (L : List AB) (s1 s2 : List (Nat × AB)) (id : Nat) : Put ab0 ab1 L (s1 ++ (id, ab0) :: s2) (.g id) L (s1 ++ (id, ab1) :: s2)
theorem Put.here {L L' : List AB} {s s' : List (Nat × AB)} {r : Rf} {ab0 ab1 : AB} (h : Put ab0 ab1 L s r L' s') : Here L s r ab0 := by
  cases h with
  | l _ k h => exact h
  | g s1 s2 id => simp [Here]
theorem Put.spec {L L' : List AB} {s s' : List (Nat × AB)} {r : Rf} {ab0 ab1 : AB} (h : Put ab0 ab1 L s r L' s') (hnd : (s.map (·.1)).Nodup) :
    (∀ r' ab, Here L' s' r' ab → (r' = r ∧ ab = ab1) ∨ (r' ≠ r ∧ Here L s r' ab)) ∧ (s'.map (·.1)) = s.map (·.1) ∧ L'.length = L.length := by
  cases h with
  | l _ k h =>
    refine ⟨fun r' ab hr => ?_, rfl, by simp⟩
    cases r' with
    | g id => exact .inr ⟨by simp, hr⟩
    | l j =>
      simp only [Here] at hr
      by_cases e : k = j
      · subst e
        rw [List.getElem?_set_self (List.getElem?_eq_some_iff.1 h).1] at hr
        cases hr
        exact .inl ⟨rfl, rfl⟩
      · rw [List.getElem?_set_ne e] at hr
        exact .inr ⟨fun h => by cases h; exact e rfl, hr⟩
  | g s1 s2 id =>
    refine ⟨fun r' ab hr => ?_, by simp, rfl⟩
    cases r' with
    | l j => exact .inr ⟨by simp, hr⟩
    | g j =>
      simp only [Here, List.mem_append, List.mem_cons] at hr
      rw [List.map_append, List.map_cons] at hnd
      have h3 := List.nodup_append.1 hnd
      rcases hr with hr | hr | hr
      · refine .inr ⟨fun h => ?_, by simp [Here, hr]⟩
        cases h
        exact h3.2.2 id (List.mem_map.2 ⟨_, hr, rfl⟩) id (by simp) rfl
      · cases hr
        exact .inl ⟨rfl, rfl⟩
      · refine .inr ⟨fun h => ?_, by simp [Here, hr]⟩
        cases h
        have := (List.nodup_cons.1 h3.2.1).1
        exact this (List.mem_map.2 ⟨_, hr, rfl⟩)

theorem Put.gput {L : List AB} {s : List (Nat × AB)} {id : Nat} {ab0 : AB} (ab1 : AB) (h : sfind s id = some ab0) : Put ab0 ab1 L s (.g id) L (sput s id ab1) := by
  have : ∀ {s : List (Nat × AB)}, sfind s id = some ab0 → ∃ s1 s2, s = s1 ++ (id, ab0) :: s2 ∧ sput s id ab1 = s1 ++ (id, ab1) :: s2 := by
    intro s
    induction s with
    | nil => intro h; simp [sfind] at h
    | cons x r ih =>
      obtain ⟨i, y⟩ := x
      intro h
      simp only [sfind] at h
      split at h
      · rename_i hb
        cases h
        have := Nat.eq_of_beq_eq_true hb
        subst this
        exact ⟨[], r, rfl, by simp [sput]⟩
      · rename_i hb
        obtain ⟨s1, s2, h1, h2⟩ := ih h
        exact ⟨(i, y) :: s1, s2, by rw [h1]; rfl, by simp only [sput, hb, h2]; rfl⟩
  obtain ⟨s1, s2, h1, h2⟩ := this h
  rw [h2, h1]
  exact .g L s1 s2 id

theorem shape_setRow {b : Nat} {old new : Array Value} {t : TypeId} {fr : Nat × Nat} (hb : w.heap[b]? = some (.cells old t fr)) (hsz : new.size = old.size) (x : Nat) : (w.setRow b new).shape? x = w.shape? x := by
  unfold World.shape?
  by_cases e : x = b
  · subst e
    rw [setRow_heap w x old new t fr hb, hb]
    simp [hsz]
  · rw [setRow_other w b x new e]

theorem eff_write {L' : List AB} {s' : List (Nat × AB)} {r : Rf} {ab0 ab1 : AB} {b : Nat} {old new : Array Value} {t : TypeId} (hS : St M F U L s w) (hp : Put ab0 ab1 L s r L' s') (hd : ab0 ≠ .dead) (hm : M.at_ r = some b)
    (hb : w.heap[b]? = some (.cells old t (0, 0))) (hsz : new.size = old.size) (hrb : ∀ w', Ext U w w' → w'.heap[b]? = some (.cells new t (0, 0)) → RB (M.sub r) F w' b ab1) :
    Eff M F U s w L' s' (.d (.raw .nilIface)) .nilIface M F U (w.setRow b new) := by
  obtain ⟨hsp, hids, hlen⟩ := hp.spec hS.nd
  have hnU := hS.nU r ab0 b hp.here hd hm
  have hX : Ext U w (w.setRow b new) := ⟨rfl, rfl, rfl, by simp, fun x hx => setRow_other w b x new (fun e => hnU (e ▸ hx)), fun x _ => shape_setRow hb hsz x⟩
  have hself : (w.setRow b new).heap[b]? = some (.cells new t (0, 0)) := setRow_heap w b old new t (0, 0) hb
  have hidm : ∀ id ab, (id, ab) ∈ s' → ∃ ab0, (id, ab0) ∈ s := fun id ab h => by
    have : id ∈ s'.map (·.1) := List.mem_map.2 ⟨_, h, rfl⟩
    rw [hids] at this
    obtain ⟨⟨i, a⟩, h1, h2⟩ := List.mem_map.1 this
    simp only at h2
    subst h2
    exact ⟨a, h1⟩
  refine ⟨.refl M, fun _ h => h, fun _ h => h, hX, ?_, .d (.raw _ rfl), fun _ h => .inl h, fun k b h => .inr ⟨k, h⟩, fun id ab b' h hd' hb' => ?_, fun id ab h => .inl (hidm id ab h)⟩
  · refine ⟨fun r' ab b' hr hm' => ?_, fun r1 r2 a1 a2 b' h1 h2 d1 d2 m1 m2 => ?_, fun r' ab b' hr hd' hm' => ?_, by rw [hids]; exact hS.nd, hS.FU, fun x hx => by simpa using hS.Ult x hx, fun k hk => hS.dom k (by omega), fun id ab h => ?_, fun id h => hS.gdom id fun ab hab => ?_⟩
    · rcases hsp r' ab hr with ⟨rfl, rfl⟩ | ⟨hne, h⟩
      · rw [hm] at hm'
        cases hm'
        exact hrb _ hX hself
      · refine (hS.rb r' ab b' h hm').mono (.refl _) (fun _ h => h) hS.FU hX (fun hd' => setRow_other w b b' new (fun e => ?_))
        subst e
        exact hne (hS.inj r' r ab ab0 b' h hp.here hd' hd hm' hm)
    · have one : ∀ r' ab, Here L' s' r' ab → ab ≠ .dead → ∃ ab', Here L s r' ab' ∧ ab' ≠ .dead := fun r' ab hr hd' => by
        rcases hsp r' ab hr with ⟨rfl, rfl⟩ | ⟨_, h⟩
        · exact ⟨ab0, hp.here, hd⟩
        · exact ⟨ab, h, hd'⟩
      obtain ⟨x1, q1, e1⟩ := one r1 a1 h1 d1
      obtain ⟨x2, q2, e2⟩ := one r2 a2 h2 d2
      exact hS.inj r1 r2 x1 x2 b' q1 q2 e1 e2 m1 m2
    · rcases hsp r' ab hr with ⟨rfl, rfl⟩ | ⟨_, h⟩
      · exact hS.nU r' ab0 b' hp.here hd hm'
      · exact hS.nU r' ab b' h hd' hm'
    · obtain ⟨ab0', h'⟩ := hidm id ab h
      exact hS.tot id ab0' h'
    · have : id ∈ s.map (·.1) := List.mem_map.2 ⟨_, hab, rfl⟩
      rw [← hids] at this
      obtain ⟨⟨i, a⟩, h1, h2⟩ := List.mem_map.1 this
      simp only at h2
      subst h2
      exact h a h1
  · right; left
    rcases hsp (.g id) ab h with ⟨e, rfl⟩ | ⟨_, h'⟩
    · subst e
      exact ⟨id, ab0, hp.here, hd, hb'⟩
    · exact ⟨id, ab, h', hd', hb'⟩

/-- What a store writes. -/
theorem run_store_cells {t : TypeId} {ti : TI} (hT : TabOK P T) (ht : T t = some ti) {b off : Nat} {v : Value} {arr : Array Value} {tt : TypeId} (hb : w.heap[b]? = some (.cells arr tt (0, 0))) (hsz : v.cells.size = ti.size) (hin : off + ti.size ≤ arr.size) (h1 : ∀ (j : Nat) (u : Value), v.cells[j]? = some u → u.oneCell' = true) :
    (Instr.storeAt t (.pointer (some ⟨b, off, none⟩)) v).run P w = .ok () (w.setRow b (setN arr.toList off v.cells.toList).toArray) := by
  obtain ⟨_, _, i, _, _, h3, h4, _⟩ := hT t ti ht
  unfold Instr.storeAt Instr.sureAddr storeVar
  simp only [Sem.run_bind, Sem.run_pure, Result.andThen_ok, run_sizeOf' h3, h4]
  rw [if_neg (by omega)]
  have := run_storeCells_at (P := P) b off tt v.cells.toList 0 arr w hb (by simp; omega) (fun u hu => by
    obtain ⟨j, hj, rfl⟩ := List.mem_iff_getElem.1 hu
    exact h1 j _ (by simp at hj; simp [hj]))
  rw [this]
  simp [setN]

theorem ej_store_cells {t : TypeId} {ti : TI} (hT : TabOK P T) (ht : T t = some ti) {x y : Operand} {r : Rf} {off : Nat} {cs : List AV} {L' : List AB} {s' : List (Nat × AB)} {K : AV → List AB → List (Nat × AB) → Prop} (ho : o.op = .store t x y) (hx1 : rh x = .ref r off)
    (hb : boxable (rh y) = true) (hsz : (rh y).cells.length = ti.size) (hin : off + ti.size ≤ cs.length) (hcl : ∀ id, r = .g id → clL (rh y).cells = true) (hp : Put (.cells cs) (.cells (setN cs off (rh y).cells)) L s r L' s')
    (hK : K .undef L' s') : EJ P G o rh L s K := by
  intro M F U w a hS hG hx
  have h1 := hx x (by simp [ho, Op.operands])
  have h2 := hx y (by simp [ho, Op.operands])
  rw [hx1] at h1
  have hc := h2.cells (fun vs e => by rw [e] at hb; simp [boxable] at hb) (fun e => by rw [e] at hb; simp [boxable] at hb)
  generalize he : a.eval x = u at h1
  cases h1 with
  | ref _ _ b hm =>
    obtain ⟨arr, tt, hbk, hasz, hac⟩ := hS.rb r _ b hp.here hm
    have hrun := run_store_cells hT ht hbk (v := a.eval y) (off := off) (by rw [hc.1, hsz]) (by omega) (fun j u hu => by
      have hj : j < (rh y).cells.length := by have := (Array.getElem?_eq_some_iff.1 hu).1; omega
      exact (hc.2 j _ u (List.getElem?_eq_getElem hj) hu).1)
    have hE := eff_write hS hp (by simp) hm hbk (new := (setN arr.toList off (a.eval y).cells.toList).toArray) (by simp only [List.size_toArray]; rw [setN_len (by simp [hc.1]; omega)]; simp) (fun w' hX hnew => by
      refine ⟨_, tt, hnew, by simp only [List.size_toArray]; rw [setN_len (by simp [hc.1]; omega), setN_len (by omega)]; simp [hasz], fun j z u hz hu => ?_⟩
      simp only [List.getElem?_toArray] at hu
      rw [setN_get (by omega)] at hz
      rw [setN_get (by simp [hc.1]; omega)] at hu
      simp only [Array.length_toList, hc.1] at hu
      by_cases hj : off ≤ j ∧ j < off + (rh y).cells.length
      · rw [if_pos hj] at hz hu
        have := hc.2 (j - off) z u hz (by simpa using hu)
        refine ⟨this.1, ?_⟩
        have hrv : RV (M.sub r) F w z u := by
          cases r with
          | l k => exact this.2
          | g id => exact this.2.closed (clL_at (hcl id rfl) hz)
        exact hrv.mono (.refl _) (fun _ h => h) hS.FU hX
      · rw [if_neg hj] at hz hu
        have := hac j z u hz (by simpa using hu)
        exact ⟨this.1, this.2.mono (.refl _) (fun _ h => h) hS.FU hX⟩)
    refine wp_skip' (w' := w.setRow b (setN arr.toList off (a.eval y).cells.toList).toArray) ?_ ⟨.undef, L', s', Go.undef, M, F, U, hK, rfl, hE.le, hE.FF, hE.UU, hE.ext, hE.st, .undef _, hE.Fn, hE.ll, hE.lg, hE.ids⟩
    simp only [execOp, ho, he, Sem.run_bind, hrun, Result.andThen_ok, Sem.run_pure]

/-- A new object that is told of from now on. -/
def Mp.putG (M : Mp) (n b : Nat) : Mp := ⟨M.l, fun id => if id = n then some b else M.g id⟩
theorem eff_alloc {n : Nat} {ab : AB} {v : AV} {val : Value} (hS : St M F U L s w) (o : Obj) (hn : sfind s n = none)
    (hb : ∀ w' M', M.glo.Le M' → Ext (fun b => b < w.heap.size) w w' → w'.heap[w.heap.size]? = some o → RB M' F w' w.heap.size ab)
    (hv : ∀ w' M', M.Le M' → M'.g n = some w.heap.size → Ext (fun b => b < w.heap.size) w w' → RV M' F w' v val) :
    Eff M F U s w L (s ++ [(n, ab)]) v val (M.putG n w.heap.size) F U (w.alloc o) := by
  have hfr := sfind_none hn
  have hgn : M.g n = none := hS.gdom n hfr
  have hle : M.Le (M.putG n w.heap.size) := by
    intro r b h
    cases r with
    | l k => exact h
    | g id =>
      simp only [Mp.at_, Mp.putG] at h ⊢
      by_cases e : id = n
      · subst e; rw [hgn] at h; cases h
      · rw [if_neg e]; exact h
  have hx := ext_alloc w o
  have hnew : (w.alloc o).heap[w.heap.size]? = some o := heap_alloc_new w o
  have hold : ∀ r, r ≠ .g n → (M.putG n w.heap.size).at_ r = M.at_ r := by
    intro r hr
    cases r with
    | l k => rfl
    | g id => simp only [Mp.at_, Mp.putG]; rw [if_neg (fun e => hr (by rw [e]))]
  have hself : (M.putG n w.heap.size).at_ (.g n) = some w.heap.size := by simp [Mp.at_, Mp.putG]
  have hcase : ∀ r ab', Here L (s ++ [(n, ab)]) r ab' → (Here L s r ab' ∧ r ≠ .g n) ∨ (r = .g n ∧ ab' = ab) := by
    intro r ab' hr
    cases r with
    | l k => exact .inl ⟨hr, by simp⟩
    | g id =>
      simp only [Here, List.mem_append, List.mem_singleton] at hr
      rcases hr with hr | hr
      · refine .inl ⟨hr, fun e => ?_⟩
        cases e
        exact hfr _ hr
      · cases hr; exact .inr ⟨rfl, rfl⟩
  have hFU : ∀ b, F b → b < w.heap.size := fun b hb => hS.Ult b (hS.FU b hb)
  refine ⟨hle, fun _ h => h, fun _ h => h, hx.mono hS.Ult, ?_, hv _ _ hle (by simp [Mp.putG]) hx, fun b h => .inl h, fun k b h => .inr ⟨k, h⟩, fun id ab' b h hd hb' => ?_, fun id ab' h => ?_⟩
  · refine ⟨fun r ab' b hr hm => ?_, fun r r' a1 a2 b h1 h2 d1 d2 m1 m2 => ?_, fun r a1 b h1 d1 m1 hu => ?_, ?_, hS.FU, fun b hb' => ?_, hS.dom, fun id ab' h => ?_, fun id h => ?_⟩
    · rcases hcase r ab' hr with ⟨h1, h2⟩ | ⟨rfl, rfl⟩
      · rw [hold r h2] at hm
        exact (hS.rb r ab' b h1 hm).mono (hle.sub r) (fun _ h => h) hFU hx (fun hd => hx.block b (hS.lt h1 hd hm))
      · rw [hself] at hm
        cases hm
        exact hb _ _ hle.glo hx hnew
    · rcases hcase r a1 h1 with ⟨e1, k1⟩ | ⟨rfl, rfl⟩ <;> rcases hcase r' a2 h2 with ⟨e2, k2⟩ | ⟨rfl, rfl⟩
      · rw [hold r k1] at m1; rw [hold r' k2] at m2
        exact hS.inj r r' a1 a2 b e1 e2 d1 d2 m1 m2
      · rw [hold r k1] at m1
        rw [hself] at m2
        cases m2
        exact absurd (hS.lt e1 d1 m1) (Nat.lt_irrefl _)
      · rw [hold r' k2] at m2
        rw [hself] at m1
        cases m1
        exact absurd (hS.lt e2 d2 m2) (Nat.lt_irrefl _)
      · rfl
    · rcases hcase r a1 h1 with ⟨h1, k1⟩ | ⟨rfl, rfl⟩
      · rw [hold r k1] at m1
        exact hS.nU r a1 b h1 d1 m1 hu
      · rw [hself] at m1
        cases m1
        exact absurd (hS.Ult _ hu) (Nat.lt_irrefl _)
    · rw [List.map_append]
      refine List.nodup_append.2 ⟨hS.nd, by simp, fun x hx y hy e => ?_⟩
      simp only [List.map_cons, List.map_nil, List.mem_singleton] at hy
      subst hy
      subst e
      obtain ⟨⟨i, a⟩, h1, h2⟩ := List.mem_map.1 hx
      simp only at h2
      subst h2
      exact hfr a h1
    · have := hS.Ult b hb'; simp; omega
    · rcases hcase (.g id) ab' h with ⟨h1, h2⟩ | ⟨e, _⟩
      · obtain ⟨b, hb⟩ := hS.tot id ab' h1
        exact ⟨b, hle (.g id) b hb⟩
      · cases e; exact ⟨_, hself⟩
    · have hne : id ≠ n := fun e => h ab (by rw [e]; simp)
      have := hold (.g id) (fun e => hne (by cases e; rfl))
      simp only [Mp.at_] at this
      rw [this]
      exact hS.gdom id (fun ab' hab => h ab' (by simp [hab]))
  · rcases hcase (.g id) ab' h with ⟨h1, h2⟩ | ⟨e, _⟩
    · have := hold (.g id) h2
      simp only [Mp.at_] at this
      rw [this] at hb'
      exact .inr (.inl ⟨id, ab', h1, hd, hb'⟩)
    · cases e
      have : w.heap.size = b := by
        have h1 : (M.putG n w.heap.size).g n = some w.heap.size := hself
        rw [h1] at hb'
        exact Option.some.inj hb'
      exact .inl (by omega)
  · rcases hcase (.g id) ab' h with ⟨h1, _⟩ | ⟨e, _⟩
    · exact .inl ⟨ab', h1⟩
    · cases e; exact .inr hgn

theorem rb_cells {M' : Mp} {w' : World} {cs : List AV} {arr : Array Value} {t : TypeId} (hS : St M F U L s w) (hsz : arr.size = cs.length) (hcl : clL cs = true)
    (hc : ∀ (j : Nat) (y : AV) (u : Value), cs[j]? = some y → arr[j]? = some u → u.oneCell' = true ∧ RV M F w y u) (hle : M.glo.Le M') (hx : Ext (fun b => b < w.heap.size) w w') {b : Nat} (hn : w'.heap[b]? = some (.cells arr t (0, 0))) : RB M' F w' b (.cells cs) :=
  ⟨arr, t, hn, hsz, fun j x u hj hu => ⟨(hc j x u hj hu).1, ((hc j x u hj hu).2.closed (clL_at hcl hj)).mono hle (fun _ h => h) (fun b hb => hS.Ult b (hS.FU b hb)) hx⟩⟩

theorem ej_box {t : TypeId} {x : Operand} {n : Nat} {K : AV → List AB → List (Nat × AB) → Prop} (ho : o.op = .box t x) (hb : boxable (rh x) = true) (hcl : clL (rh x).cells = true) (hn : sfind s n = none) (hK : K (.ref (.g n) 0) L (s ++ [(n, .cells (rh x).cells)])) : EJ P G o rh L s K := by
  intro M F U w a hS hG hx
  have h1 := hx x (by simp [ho, Op.operands])
  have h2 := h1.cells (fun vs e => by rw [e] at hb; simp [boxable] at hb) (fun e => by rw [e] at hb; simp [boxable] at hb)
  have hE := eff_alloc (v := .ref (.g n) 0) (val := .pointer (some ⟨w.heap.size, 0, none⟩)) (ab := .cells (rh x).cells) hS (.cells (a.eval x).cells t) hn (fun w' M' hle hx hnew => rb_cells hS h2.1 hcl h2.2 hle hx hnew) (fun w' M' _ hm _ => .ref _ _ _ hm)
  refine wp_value (val := .pointer (some ⟨w.heap.size, 0, none⟩)) (w' := w.alloc (.cells (a.eval x).cells t)) ?_ ⟨_, L, _, _, _, F, U, hK, rfl, hE⟩
  simp only [execOp, ho, Instr.box, Sem.run_bind, run_newVar', Result.andThen_ok, Sem.run_pure]

theorem clL_dat : ∀ (xs : List DV), clL (xs.map .d) = true
  | [] => rfl
  | x :: r => by simp [clL, AV.cl, clL_dat r]
theorem ej_alloc {t : TypeId} {ti : TI} (hT : TabOK P T) (ht : T t = some ti) {n : Nat} {K : AV → List AB → List (Nat × AB) → Prop} (ho : o.op = .alloc t) (hn : sfind s n = none) (hK : K (.ref (.g n) 0) L (s ++ [(n, .cells (ti.zero.map .d))])) : EJ P G o rh L s K := by
  intro M F U w a hS hG hx
  obtain ⟨z, hz, hsz, hc⟩ := hT.zero ht
  have hE := eff_alloc (v := .ref (.g n) 0) (val := .pointer (some ⟨w.heap.size, 0, none⟩)) (ab := .cells (ti.zero.map .d)) hS (.cells z.cells t) hn (fun w' M' hle hx hnew => rb_cells hS (by simp [hsz]) (clL_dat _) (fun j y u hy hu => by
    rw [List.getElem?_map] at hy
    obtain ⟨y', hy', rfl⟩ := Option.map_eq_some_iff.1 hy
    exact hc M F w j y' u hy' hu) hle hx hnew) (fun w' M' _ hm _ => .ref _ _ _ hm)
  refine wp_value (val := .pointer (some ⟨w.heap.size, 0, none⟩)) (w' := w.alloc (.cells z.cells t)) ?_ ⟨_, L, _, _, _, F, U, hK, rfl, hE⟩
  simp only [execOp, ho, Instr.alloc, Sem.run_bind, hz, run_newVar', Result.andThen_ok, Sem.run_pure]
theorem ej_makeMap {t : TypeId} {n : Nat} {K : AV → List AB → List (Nat × AB) → Prop} (ho : o.op = .makeMap t none) (hn : sfind s n = none) (hK : K (.mp (.g n)) L (s ++ [(n, .dmap [])])) : EJ P G o rh L s K := by
  intro M F U w a hS hG hx
  have hE := eff_alloc (v := .mp (.g n)) (val := .map (some w.heap.size)) (ab := .dmap []) hS (.map #[] 0) hn (fun w' M' hle hx hnew => ⟨#[], 0, hnew, rfl, fun i e x he hx => by simp at hx, fun i e he => by simp at he, fun i j e e' he => by simp at he⟩) (fun w' M' _ hm _ => .mp _ _ hm)
  refine wp_value (val := .map (some w.heap.size)) (w' := w.alloc (.map #[] 0)) ?_ ⟨_, L, _, _, _, F, U, hK, rfl, hE⟩
  simp only [execOp, ho]
  rfl

/-- An object put anew, in a world that is as it was but for it. -/
theorem eff_obj {L' : List AB} {s' : List (Nat × AB)} {r : Rf} {ab0 ab1 : AB} {b : Nat} {w' : World} {old new : Obj} (hS : St M F U L s w) (hp : Put ab0 ab1 L s r L' s') (hd : ab0 ≠ .dead) (hm : M.at_ r = some b)
    (hX : ∀ U : Nat → Prop, ¬ U b → Ext U w w') (hother : ∀ x, x ≠ b → w'.heap[x]? = w.heap[x]?) (hsize : w'.heap.size = w.heap.size) (_ : old = old) (hself : w'.heap[b]? = some new) (hrb : Ext U w w' → w'.heap[b]? = some new → RB (M.sub r) F w' b ab1) :
    Eff M F U s w L' s' .undef Go.undef M F U w' := by
  obtain ⟨hsp, hids, hlen⟩ := hp.spec hS.nd
  have hnU := hS.nU r ab0 b hp.here hd hm
  have hX := hX U hnU
  have hidm : ∀ id ab, (id, ab) ∈ s' → ∃ ab0, (id, ab0) ∈ s := fun id ab h => by
    have : id ∈ s'.map (·.1) := List.mem_map.2 ⟨_, h, rfl⟩
    rw [hids] at this
    obtain ⟨⟨i, a⟩, h1, h2⟩ := List.mem_map.1 this
    simp only at h2
    subst h2
    exact ⟨a, h1⟩
  refine ⟨.refl M, fun _ h => h, fun _ h => h, hX, ?_, .undef _, fun _ h => .inl h, fun k b h => .inr ⟨k, h⟩, fun id ab b' h hd' hb' => ?_, fun id ab h => .inl (hidm id ab h)⟩
  · refine ⟨fun r' ab b' hr hm' => ?_, fun r1 r2 a1 a2 b' h1 h2 d1 d2 m1 m2 => ?_, fun r' ab b' hr hd' hm' => ?_, by rw [hids]; exact hS.nd, hS.FU, fun x hx => by rw [hsize]; exact hS.Ult x hx, fun k hk => hS.dom k (by omega), fun id ab h => ?_, fun id h => hS.gdom id fun ab hab => ?_⟩
    · rcases hsp r' ab hr with ⟨rfl, rfl⟩ | ⟨hne, h⟩
      · rw [hm] at hm'
        cases hm'
        exact hrb hX hself
      · refine (hS.rb r' ab b' h hm').mono (.refl _) (fun _ h => h) hS.FU hX (fun hd' => hother b' (fun e => ?_))
        subst e
        exact hne (hS.inj r' r ab ab0 b' h hp.here hd' hd hm' hm)
    · have one : ∀ r' ab, Here L' s' r' ab → ab ≠ .dead → ∃ ab', Here L s r' ab' ∧ ab' ≠ .dead := fun r' ab hr hd' => by
        rcases hsp r' ab hr with ⟨rfl, rfl⟩ | ⟨_, h⟩
        · exact ⟨ab0, hp.here, hd⟩
        · exact ⟨ab, h, hd'⟩
      obtain ⟨x1, q1, e1⟩ := one r1 a1 h1 d1
      obtain ⟨x2, q2, e2⟩ := one r2 a2 h2 d2
      exact hS.inj r1 r2 x1 x2 b' q1 q2 e1 e2 m1 m2
    · rcases hsp r' ab hr with ⟨rfl, rfl⟩ | ⟨_, h⟩
      · exact hS.nU r' ab0 b' hp.here hd hm'
      · exact hS.nU r' ab b' h hd' hm'
    · obtain ⟨ab0', h'⟩ := hidm id ab h
      exact hS.tot id ab0' h'
    · have : id ∈ s.map (·.1) := List.mem_map.2 ⟨_, hab, rfl⟩
      rw [← hids] at this
      obtain ⟨⟨i, a⟩, h1, h2⟩ := List.mem_map.1 this
      simp only at h2
      subst h2
      exact h a h1
  · right; left
    rcases hsp (.g id) ab h with ⟨e, rfl⟩ | ⟨_, h'⟩
    · subst e
      exact ⟨id, ab0, hp.here, hd, hb'⟩
    · exact ⟨id, ab, h', hd', hb'⟩

def setMap (w : World) (b : Nat) (ents : Array MapEntry) (clock : Nat) : World := { w with heap := w.heap.setIfInBounds b (.map ents clock) }
theorem run_setMap {b : Nat} {ents ents' : Array MapEntry} {clock clock' : Nat} (h : w.heap[b]? = some (.map ents clock)) : (setObj b (.map ents' clock')).run P w = .ok () (setMap w b ents' clock') := by
  simp [setObj, Sem.run, h, setMap]
theorem setMap_self {b : Nat} {ents ents' : Array MapEntry} {clock clock' : Nat} (h : w.heap[b]? = some (.map ents clock)) : (setMap w b ents' clock').heap[b]? = some (.map ents' clock') := by
  have hlt : b < w.heap.size := (Array.getElem?_eq_some_iff.1 h).1
  simp [setMap, hlt]
theorem setMap_other {b x : Nat} {ents' : Array MapEntry} {clock' : Nat} (h : x ≠ b) : (setMap w b ents' clock').heap[x]? = w.heap[x]? := by
  simp [setMap, Ne.symm h]
theorem setMap_ext {b : Nat} {ents ents' : Array MapEntry} {clock clock' : Nat} (h : w.heap[b]? = some (.map ents clock)) (U : Nat → Prop) (hU : ¬ U b) : Ext U w (setMap w b ents' clock') := by
  refine ⟨rfl, rfl, rfl, by simp [setMap], fun x hx => setMap_other (fun e => hU (e ▸ hx)), fun x _ => ?_⟩
  unfold World.shape?
  by_cases e : x = b
  · subst e
    rw [setMap_self h, h]
  · rw [setMap_other e]

/-- What is laid into a map. -/
def dput (es : List (DX × DX)) (k v : DX) (es' : List (DX × DX)) : Prop := ((∀ e ∈ es, e.1 ≠ k) ∧ es' = es ++ [(k, v)]) ∨ ∃ j, (∃ x, es[j]? = some x ∧ x.1 = k) ∧ (∀ i x, es[i]? = some x → x.1 = k → i = j) ∧ es' = es.set j (k, v)
/-- What is left of a map. -/
def ddel (es : List (DX × DX)) (k : DX) (es' : List (DX × DX)) : Prop := ((∀ e ∈ es, e.1 ≠ k) ∧ es' = es) ∨ ∃ j, (∃ x, es[j]? = some x ∧ x.1 = k) ∧ (∀ i x, es[i]? = some x → x.1 = k → i = j) ∧ es' = es.eraseIdx j

theorem av_of_val {F : Nat → Prop} {c : Bool × List IntKind} {k : DX} (hg : kgood c k = true) : RV M F w k.av (kval k) := by
  obtain ⟨ag, ks⟩ := c
  have cell : ∀ {x : DV}, (∃ k n, x = .int k n) → RV M F w (.d x) (cellv x) ∧ (cellv x).oneCell' = true := by
    rintro x ⟨k, n, rfl⟩
    exact ⟨.d (.int k n), rfl⟩
  cases k with
  | one x =>
    simp only [kgood, Bool.and_eq_true] at hg
    have hl := kmatch_len hg.2
    match ks, hl, hg.2 with
    | [k], _, hm =>
      obtain ⟨n, hn⟩ := kmatch_at hm (j := 0) rfl
      simp at hn
      exact (cell ⟨k, n, hn⟩).1
  | agg xs =>
    simp only [kgood, Bool.and_eq_true] at hg
    have hk := kmatch_len hg.2
    have hat : ∀ (j : Nat) (x : DV), xs[j]? = some x → ∃ k n, x = .int k n := fun j x hx => by
      have hj := (List.getElem?_eq_some_iff.1 hx).1
      obtain ⟨n, hn⟩ := kmatch_at hg.2 (j := j) (k := ks[j]'(by omega)) (List.getElem?_eq_getElem (by omega))
      rw [hx] at hn
      cases hn
      exact ⟨_, n, rfl⟩
    simp only [DX.av, kval]
    refine .agg _ _ (by simp) (fun j v hv => ?_) (fun j x v hx hv => ?_)
    · rw [List.getElem?_map] at hv
      obtain ⟨y, hy, rfl⟩ := Option.map_eq_some_iff.1 hv
      exact (cell (hat j y hy)).2
    · rw [List.getElem?_map] at hx hv
      obtain ⟨y, hy, rfl⟩ := Option.map_eq_some_iff.1 hx
      rw [hy] at hv
      cases hv
      exact (cell (hat j y hy)).1

theorem ej_mapUpdate {t kt et : TypeId} {ti : TI} (hT : TabOK P T) (ht : T t = some ti) (hu : ti.u = .map kt et) {c : Bool × List IntKind} (hk : flatK T kt = some c) (hs : P.stoodInHeld kt = false) {x k y : Operand} (ho : o.op = .mapUpdate t x k y)
    {id : Nat} (hx1 : rh x = .mp (.g id)) {es es' : List (DX × DX)} (hm : sfind s id = some (.dmap es)) {kx vx : DX} (hkx : rh k = kx.av) (hvx : rh y = vx.av) (hg : kgood c kx = true) (hall : ∀ e ∈ es, kgood c e.1 = true) (hr : dput es kx vx es')
    {K : AV → List AB → List (Nat × AB) → Prop} (hK : K .undef L (sput s id (.dmap es'))) : EJ P G o rh L s K := by
  intro M F U w a hS hG hx
  have h1 := hx x (by simp [ho, Op.operands])
  have h2 := hx k (by simp [ho, Op.operands])
  have h3 := hx y (by simp [ho, Op.operands])
  rw [hx1] at h1
  rw [hkx] at h2
  rw [hvx] at h3
  have hkv := kgood_val hg h2
  generalize he : a.eval x = u at h1
  cases h1 with
  | mp _ b hb =>
    obtain ⟨ents, clock, q1, q2, q3, q4, q5, q6⟩ := dmap_find hT hS (sfind_mem hm) hb hk hs hg hall
    have hun := run_underlying' ((hT t ti ht).1) w
    rw [hu] at hun
    -- the new entries
    have fin : ∀ (ents' : Array MapEntry) (clock' : Nat), (Instr.mapUpdate t (.map (some b)) (kval kx) (a.eval y)).run P w = .ok () (setMap w b ents' clock') → ents'.size = es'.length →
        (∀ (i : Nat) (e : MapEntry) (x : DX × DX), ents'[i]? = some e → es'[i]? = some x → RV M F w x.1.av e.key ∧ RV M F w x.2.av e.val) →
        (∀ (i : Nat) (e : MapEntry), ents'[i]? = some e → e.born < clock') → (∀ (i j : Nat) (e e' : MapEntry), ents'[i]? = some e → ents'[j]? = some e' → e.born = e'.born → i = j) →
        o.wp P a w (fun a' w' => ∃ v L' s' val M' F' U', K v L' s' ∧ a' = a.put o.dst val ∧ Eff M F U s w L' s' v val M' F' U' w') (fun _ _ _ => False) := by
      intro ents' clock' hrun r1 r2 r3 r4
      have hE := eff_obj (w' := setMap w b ents' clock') (old := .map ents clock) (new := .map ents' clock') hS (Put.gput (L := L) (.dmap es') hm) (by simp) hb (setMap_ext q1) (fun x hx => setMap_other hx) (by simp [setMap]) rfl (setMap_self q1) (fun hX hh =>
        ⟨ents', clock', hh, r1, fun i e x he hx => ⟨DX.rv ((r2 i e x he hx).1.mono (.refl M) (fun _ h => h) hS.FU hX), DX.rv ((r2 i e x he hx).2.mono (.refl M) (fun _ h => h) hS.FU hX)⟩, r3, r4⟩)
      refine wp_skip' (w' := setMap w b ents' clock') ?_ ⟨.undef, L, _, Go.undef, M, F, U, hK, rfl, hE⟩
      simp only [execOp, ho, he, hkv, Sem.run_bind, hrun, Result.andThen_ok, Sem.run_pure]
    have hkav : RV M F w kx.av (kval kx) := av_of_val hg
    have hold : ∀ (i : Nat) (e : MapEntry) (x : DX × DX), ents[i]? = some e → es[i]? = some x → RV M F w x.1.av e.key ∧ RV M F w x.2.av e.val := fun i e x he hx => by
      obtain ⟨k1, k2⟩ := q3 i e x he hx
      exact ⟨by rw [k1]; exact av_of_val (hall x (List.mem_of_getElem? hx)), k2⟩
    rcases q6 with ⟨f1, f2⟩ | ⟨j, e, z, f1, f2, f3, f4⟩
    · have hes : es' = es ++ [(kx, vx)] := by
        rcases hr with ⟨_, h⟩ | ⟨j, ⟨x, h1, h2⟩, _⟩
        · exact h
        · exact absurd h2 (f2 x (List.mem_of_getElem? h1))
      subst hes
      refine fin (ents.push { key := kval kx, val := a.eval y, born := clock }) (clock + 1) ?_ (by simp [q2]) ?_ ?_ ?_
      · unfold Instr.mapUpdate
        simp only [Sem.run_bind, hun, Result.andThen_ok, run_getMap q1, flat_check hT hk hg, f1, run_setMap q1]
      · intro i e x he hx
        rw [Array.getElem?_push] at he
        by_cases hi : i = ents.size
        · rw [if_pos hi] at he
          cases he
          rw [List.getElem?_append_right (by omega), show i - es.length = 0 by omega] at hx
          simp at hx
          subst hx
          exact ⟨hkav, h3⟩
        · rw [if_neg hi] at he
          have hlt := (Array.getElem?_eq_some_iff.1 he).1
          rw [List.getElem?_append_left (by omega)] at hx
          exact hold i e x he hx
      · intro i e he
        rw [Array.getElem?_push] at he
        by_cases hi : i = ents.size
        · rw [if_pos hi] at he
          cases he
          simp
        · rw [if_neg hi] at he
          have := q4 i e he
          omega
      · intro i j e e' he he' hbn
        rw [Array.getElem?_push] at he he'
        by_cases hi : i = ents.size <;> by_cases hj : j = ents.size
        · omega
        · rw [if_pos hi] at he
          rw [if_neg hj] at he'
          cases he
          have := q4 j e' he'
          simp only at hbn
          omega
        · rw [if_neg hi] at he
          rw [if_pos hj] at he'
          cases he'
          have := q4 i e he
          simp only at hbn
          omega
        · rw [if_neg hi] at he
          rw [if_neg hj] at he'
          exact q5 i j e e' he he' hbn
    · have hes : es' = es.set j (kx, vx) := by
        rcases hr with ⟨h, _⟩ | ⟨j', _, h, h'⟩
        · exact absurd f4 (h z (List.mem_of_getElem? f3))
        · rw [h j z f3 f4]; exact h'
      subst hes
      have hstay : (Instr.keyThatStays (((ents[j]?).map (·.key)).getD (kval kx)) (kval kx)).run P w = .ok (kval kx) w := by
        have hek : e.key = kval kx := by rw [(q3 j e z f2 f3).1, f4]
        rw [f2]
        unfold Instr.keyThatStays
        simp only [Option.map_some, Option.getD_some, hek, kval_bits hg, if_true]
        rfl
      have hmod : ∀ i : Nat, (ents.modify j fun e => { e with key := kval kx, val := a.eval y })[i]? = if j = i then (ents[i]?).map (fun e => { e with key := kval kx, val := a.eval y }) else ents[i]? := fun i => by
        rw [Array.getElem?_modify]
      refine fin (ents.modify j fun e => { e with key := kval kx, val := a.eval y }) clock ?_ (by simp [q2]) ?_ ?_ ?_
      · unfold Instr.mapUpdate
        simp only [Sem.run_bind, hun, Result.andThen_ok, run_getMap q1, flat_check hT hk hg, f1, hstay, run_setMap q1]
      · intro i e' x' he' hx'
        rw [hmod] at he'
        by_cases hi : j = i
        · subst hi
          rw [if_pos rfl, f2] at he'
          cases he'
          rw [List.getElem?_set_self (by have := (List.getElem?_eq_some_iff.1 f3).1; exact this)] at hx'
          cases hx'
          exact ⟨hkav, h3⟩
        · rw [if_neg hi] at he'
          rw [List.getElem?_set_ne hi] at hx'
          exact hold i e' x' he' hx'
      · intro i e' he'
        rw [hmod] at he'
        by_cases hi : j = i
        · subst hi
          rw [if_pos rfl, f2] at he'
          cases he'
          exact q4 j e f2
        · rw [if_neg hi] at he'
          exact q4 i e' he'
      · have born : ∀ (i : Nat) (e' : MapEntry), (ents.modify j fun e => { e with key := kval kx, val := a.eval y })[i]? = some e' → ∃ e0, ents[i]? = some e0 ∧ e0.born = e'.born := fun i e' he' => by
          rw [hmod] at he'
          by_cases hi : j = i
          · subst hi
            rw [if_pos rfl, f2] at he'
            cases he'
            exact ⟨e, f2, rfl⟩
          · rw [if_neg hi] at he'
            exact ⟨e', he', rfl⟩
        intro i i' e1 e2 h1 h2 hbn
        obtain ⟨e10, k1, k2⟩ := born i e1 h1
        obtain ⟨e20, p1, p2⟩ := born i' e2 h2
        exact q5 i i' e10 e20 k1 p1 (by rw [k2, p2]; exact hbn)

theorem ej_delete {t kt et t2 : TypeId} {ti : TI} (hT : TabOK P T) (ht : T t = some ti) (hu : ti.u = .map kt et) {c : Bool × List IntKind} (hk : flatK T kt = some c) (hs : P.stoodInHeld kt = false) {x k : Operand} (ho : o.op = .call { callee := .builtin .delete, args := #[x, k], argTypes := #[t, t2] })
    {id : Nat} (hx1 : rh x = .mp (.g id)) {es es' : List (DX × DX)} (hm : sfind s id = some (.dmap es)) {kx : DX} (hkx : rh k = kx.av) (hg : kgood c kx = true) (hall : ∀ e ∈ es, kgood c e.1 = true) (hr : ddel es kx es')
    {K : AV → List AB → List (Nat × AB) → Prop} (hK : K (.tup []) L (sput s id (.dmap es'))) : EJ P G o rh L s K := by
  intro M F U w a hS hG hx
  have h1 := hx x (by simp [ho, Op.operands, Call.operands])
  have h2 := hx k (by simp [ho, Op.operands, Call.operands])
  rw [hx1] at h1
  rw [hkx] at h2
  have hkv := kgood_val hg h2
  generalize he : a.eval x = u at h1
  cases h1 with
  | mp _ b hb =>
    obtain ⟨ents, clock, q1, q2, q3, q4, q5, q6⟩ := dmap_find hT hS (sfind_mem hm) hb hk hs hg hall
    have hun := run_underlying' ((hT t ti ht).1) w
    rw [hu] at hun
    have fin : ∀ (ents' : Array MapEntry), (Builtin.delete_ #[t, t2] 0 #[.map (some b), kval kx]).run P w = .ok (.tuple #[]) (setMap w b ents' clock) → ents'.size = es'.length →
        (∀ (i : Nat) (e : MapEntry) (x : DX × DX), ents'[i]? = some e → es'[i]? = some x → RV M F w x.1.av e.key ∧ RV M F w x.2.av e.val) →
        (∀ (i : Nat) (e : MapEntry), ents'[i]? = some e → e.born < clock) → (∀ (i j : Nat) (e e' : MapEntry), ents'[i]? = some e → ents'[j]? = some e' → e.born = e'.born → i = j) →
        o.wp P a w (fun a' w' => ∃ v L' s' val M' F' U', K v L' s' ∧ a' = a.put o.dst val ∧ Eff M F U s w L' s' v val M' F' U' w') (fun _ _ _ => False) := by
      intro ents' hrun r1 r2 r3 r4
      have hE := eff_obj (w' := setMap w b ents' clock) (old := .map ents clock) (new := .map ents' clock) hS (Put.gput (L := L) (.dmap es') hm) (by simp) hb (setMap_ext q1) (fun x hx => setMap_other hx) (by simp [setMap]) rfl (setMap_self q1) (fun hX hh =>
        ⟨ents', clock, hh, r1, fun i e x he hx => ⟨DX.rv ((r2 i e x he hx).1.mono (.refl M) (fun _ h => h) hS.FU hX), DX.rv ((r2 i e x he hx).2.mono (.refl M) (fun _ h => h) hS.FU hX)⟩, r3, r4⟩)
      have hrv : RV M F (setMap w b ents' clock) (.tup []) (.tuple #[]) := .tup [] [] rfl (fun j x v hx => by simp at hx)
      refine wp_value (val := .tuple #[]) (w' := setMap w b ents' clock) ?_ ⟨.tup [], L, _, .tuple #[], M, F, U, hK, rfl, hE.le, hE.FF, hE.UU, hE.ext, hE.st, hrv, hE.Fn, hE.ll, hE.lg, hE.ids⟩
      simp only [execOp, ho, resolve, invoke, builtin, Sem.run_bind, Sem.run_pure, Result.andThen_ok, List.map_toArray, List.map_cons, List.map_nil, he, hkv]
      have hrun' : (Builtin.delete_ #[t, t2] o.type #[.map (some b), kval kx]).run P w = .ok (.tuple #[]) (setMap w b ents' clock) := hrun
      rw [hrun']
      rfl
    have hold : ∀ (i : Nat) (e : MapEntry) (x : DX × DX), ents[i]? = some e → es[i]? = some x → RV M F w x.1.av e.key ∧ RV M F w x.2.av e.val := fun i e x he hx => by
      obtain ⟨k1, k2⟩ := q3 i e x he hx
      exact ⟨by rw [k1]; exact av_of_val (hall x (List.mem_of_getElem? hx)), k2⟩
    have hdel : ∀ (fr : Option (Nat × Value)) (ents' : Array MapEntry), (Instr.findKey kt (kval kx) ents.toList).run P w = .ok fr w → (match fr with
        | some (i, _) => ents' = ents.eraseIdxIfInBounds i
        | none => ents' = ents) → (Builtin.delete_ #[t, t2] 0 #[.map (some b), kval kx]).run P w = .ok (.tuple #[]) (setMap w b ents' clock) := by
      intro fr ents' hf hv
      unfold Builtin.delete_
      cases fr with
      | none =>
        subst hv
        simp [Sem.run_bind, hun, run_getMap q1, flat_check hT hk hg, hf, run_setMap q1]
      | some jv =>
        obtain ⟨j, v'⟩ := jv
        subst hv
        simp [Sem.run_bind, hun, run_getMap q1, flat_check hT hk hg, hf, run_setMap q1]
    rcases q6 with ⟨f1, f2⟩ | ⟨j, e, z, f1, f2, f3, f4⟩
    · have hes : es' = es := by
        rcases hr with ⟨_, h⟩ | ⟨j, ⟨x, h1, h2⟩, _⟩
        · exact h
        · exact absurd h2 (f2 x (List.mem_of_getElem? h1))
      subst hes
      exact fin ents (hdel none ents f1 rfl) q2 hold q4 q5
    · have hes : es' = es.eraseIdx j := by
        rcases hr with ⟨h, _⟩ | ⟨j', _, h, h'⟩
        · exact absurd f4 (h z (List.mem_of_getElem? f3))
        · rw [h j z f3 f4]; exact h'
      subst hes
      have hlt := (Array.getElem?_eq_some_iff.1 f2).1
      have hget : ∀ i : Nat, (ents.eraseIdxIfInBounds j)[i]? = if i < j then ents[i]? else ents[i + 1]? := fun i => by
        unfold Array.eraseIdxIfInBounds
        rw [dif_pos hlt, Array.getElem?_eraseIdx]
      refine fin (ents.eraseIdxIfInBounds j) (hdel _ _ f1 rfl) ?_ ?_ ?_ ?_
      · unfold Array.eraseIdxIfInBounds
        rw [dif_pos hlt, Array.size_eraseIdx, List.length_eraseIdx, if_pos (by omega), q2]
      · intro i e' x' he' hx'
        rw [hget] at he'
        rw [List.getElem?_eraseIdx] at hx'
        by_cases hi : i < j
        · rw [if_pos hi] at he' hx'; exact hold i e' x' he' hx'
        · rw [if_neg hi] at he' hx'; exact hold (i + 1) e' x' he' hx'
      · intro i e' he'
        rw [hget] at he'
        by_cases hi : i < j
        · rw [if_pos hi] at he'; exact q4 i e' he'
        · rw [if_neg hi] at he'; exact q4 (i + 1) e' he'
      · intro i i' e1 e2 h1 h2 hbn
        rw [hget] at h1 h2
        by_cases hi : i < j <;> by_cases hi' : i' < j
        · rw [if_pos hi] at h1; rw [if_pos hi'] at h2; exact q5 i i' e1 e2 h1 h2 hbn
        · rw [if_pos hi] at h1; rw [if_neg hi'] at h2; have := q5 i (i' + 1) e1 e2 h1 h2 hbn; omega
        · rw [if_neg hi] at h1; rw [if_pos hi'] at h2; have := q5 (i + 1) i' e1 e2 h1 h2 hbn; omega
        · rw [if_neg hi] at h1; rw [if_neg hi'] at h2; have := q5 (i + 1) (i' + 1) e1 e2 h1 h2 hbn; omega

/-- A call of whatever kind. -/
theorem ej_call {c : Operand} {args : Array Operand} {tys : Array TypeId} {f : Nat} {caps : List AV} {ρ : List Nat} {s0 : List (Nat × AB)} {R : AV → List (Nat × AB) → Prop} {K : AV → List AB → List (Nat × AB) → Prop}
    (ho : o.op = .call { callee := .value c, args := args, argTypes := tys }) (hc : rh c = .fn f caps)
    {args1 args' : List AV} (hrn : rnL (toF ρ) (args.toList.map rh ++ caps) = some args1) (hw : WkL args1 args') (hnd : nodupB ρ = true) (hsel : selS ρ s ρ 0 = some s0) (hC : Contract P G f args' s0 R)
    (hK : ∀ res s1, R res s1 → ∃ τ s' res', nodupB (ρ ++ τ) = true ∧ allNew s τ = true ∧ covers s1 ρ.length = true ∧ putS (ρ ++ τ) s1 s = some s' ∧ res.rn (frF (ρ ++ τ)) = some res' ∧ K res' L s') : EJ P G o rh L s K := by
  intro M F U w a hS hG hx
  obtain ⟨vals, hrun, hl, hv⟩ := run_call ho hc hC.1 hx
  have hvia : Mp.Via (toF ρ) M ⟨fun _ => none, fun (i : Nat) => (ρ[i]?).bind M.g⟩ := fun r r' b hr hm => by
    cases r with
    | l k => cases hr
    | g id =>
      simp only [toF] at hr
      split at hr <;> cases hr
      rename_i i hi
      obtain ⟨i', h1, h2⟩ := rnK_some hi
      simp only [Nat.zero_add] at h1
      subst h1
      simp only [Mp.at_] at hm ⊢
      rw [h2]
      exact hm
  obtain ⟨k1, k2⟩ := rnL_get hrn
  have hcall := call_core hC hS hG hsel hnd (by rw [hl, ← k1, hw.len]) (fun j x v hx hv' => hw.rv (l := args1) (fun j x v hx hv2 => by
    obtain ⟨y, hy, hy'⟩ := k2 j x hx
    exact (hv j y v hy hv2).rn hvia hy') j x v hx hv')
  unfold Oper.wp
  rw [hrun]
  simp only [Oper.upon]
  refine hcall.mono ?_
  rintro e w' ⟨val, res, s1, rfl, hR, hk⟩
  obtain ⟨τ, s', res', h1, h2, h3, h4, h5, h6⟩ := hK res s1 hR
  obtain ⟨M', F', U', hE⟩ := hk τ s' res' h1 h2 h3 h4 h5
  have hXU : Ext U w w' := hE.ext.mono (fun b hb => ⟨hS.Ult b hb, fun h => by
    obtain ⟨id, ab, h1, h2, h3⟩ := hE.live b h
    exact hS.nU (.g id) ab b h1 h2 h3 hb⟩)
  refine ⟨res', L, s', val, M', F', U', h6, rfl, hE.le, hE.FF, hE.UU, hXU, hE.st, hE.rv, fun b hb => ?_, fun k b h => .inr ⟨k, by rw [← hE.l]; exact h⟩, fun id ab b h hd hb => ?_, hE.ids⟩
  · rcases hE.Fn b hb with h | h | h
    · exact .inl h
    · exact .inr (.inl h)
    · exact .inr (.inr (.inl (hE.live b h)))
  · rcases hE.lg id ab b h hd hb with h | h
    · exact .inl h
    · exact .inr (.inl h)

end
end Go.Pv
