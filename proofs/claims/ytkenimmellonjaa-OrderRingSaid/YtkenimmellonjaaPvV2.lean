/- An object of our own that is written no more: data from then on. -/
import Derived.Test.YtkenimmellonjaaPvV
namespace Go.Pv
open Go.RowKit

section
variable {P : Program} {cx : Ctx} {env : Env} {L : List AB} {s s' : List (Nat × AB)} {M M' : Mp} {F U : Nat → Prop} {w : World} {a : Act} {z : Z} {n : Nat}

def fzB (id : Nat) (ab : AB) : AB → AB
  | .cells cs => .cells (fzL id ab cs)
  | .arow sz rows => .arow sz (rows.map (fzL id ab))
  | .map es => .map (es.map fun e => (e.1.fz id ab, e.2.fz id ab))
  | .row sz rows => .row sz rows
  | .dmap es => .dmap es
  | .dead => .dead
def fzBOK (id : Nat) (ab : AB) : AB → Prop
  | .cells cs => fzLOK id ab cs
  | .arow _ rows => ∀ r ∈ rows, fzLOK id ab r
  | .map es => ∀ e ∈ es, e.1.fzOK id ab ∧ e.2.fzOK id ab
  | _ => True
theorem fzB_dead {id : Nat} {ab x : AB} : fzB id ab x = .dead ↔ x = .dead := by cases x <;> simp [fzB]
theorem DX.fz {F' : Nat → Prop} {x : DX} {v : Value} (h : RV M F w x.av v) (hF : ∀ b, F b → F' b) : RV M F' w x.av v := by
  cases x with
  | one x => cases h with | d h => exact .d (h.mono hF (fun _ _ => rfl))
  | agg xs =>
    simp only [DX.av] at h ⊢
    cases h with
    | agg cs vs hl h1 h =>
      refine .agg _ vs hl h1 fun j x v hx hv => ?_
      have := h j x v hx hv
      rw [List.getElem?_map] at hx
      obtain ⟨y, hy, rfl⟩ := Option.map_eq_some_iff.1 hx
      cases this with | d h => exact .d (h.mono hF (fun _ _ => rfl))
theorem RB.fz (hS : St M F U L s w) {M0 : Mp} {id b : Nat} {ab : AB} (hid : sfind s id = some ab) (hb : M.g id = some b) (h0 : M0.g id = some b) (hle : M0.Le M) {x : AB} {c : Nat} (h : RB M0 F w c x) (hok : fzBOK id ab x) : RB M0 (fun c => F c ∨ c = b) w c (fzB id ab x) := by
  cases x with
  | cells cs =>
    obtain ⟨arr, t, h1, h2, h3⟩ := h
    refine ⟨arr, t, h1, by rw [fzL_len]; exact h2, fun j y u hy hu => ?_⟩
    obtain ⟨x, hx, rfl⟩ := fzL_get hy
    exact ⟨(h3 j x u hx hu).1, (h3 j x u hx hu).2.fz hS hid hb h0 hle (fun _ h => h) (fzLOK_get hok hx)⟩
  | row sz rows =>
    obtain ⟨arr, t, h1, h2, h3, h4, h5⟩ := h
    exact ⟨arr, t, h1, h2, h3, h4, fun i r j x v hi hj hv => (h5 i r j x v hi hj hv).mono (fun _ h => .inl h) (fun _ _ => rfl)⟩
  | arow sz rows =>
    obtain ⟨arr, t, h1, h2, h3, h4, h5⟩ := h
    refine ⟨arr, t, h1, by simpa [fzB] using h2, fun i r hi => ?_, h4, fun i r j x v hi hj hv => ?_⟩
    · simp only [List.getElem?_map] at hi
      obtain ⟨r0, hr0, rfl⟩ := Option.map_eq_some_iff.1 hi
      rw [fzL_len]; exact h3 i r0 hr0
    · rw [List.getElem?_map] at hi
      obtain ⟨r0, hr0, rfl⟩ := Option.map_eq_some_iff.1 hi
      obtain ⟨x0, hx0, rfl⟩ := fzL_get hj
      exact (h5 i r0 j x0 v hr0 hx0 hv).fz hS hid hb h0 hle (fun _ h => h) (fzLOK_get (hok r0 (List.mem_of_getElem? hr0)) hx0)
  | map es =>
    obtain ⟨ents, clock, h1, h2, h3, h4⟩ := h
    refine ⟨ents, clock, h1, by simpa [fzB] using h2, fun i e x he hx => ?_, h4⟩
    rw [List.getElem?_map] at hx
    obtain ⟨y, hy, rfl⟩ := Option.map_eq_some_iff.1 hx
    have := hok y (List.mem_of_getElem? hy)
    exact ⟨(h3 i e y he hy).1.fz hS hid hb h0 hle (fun _ h => h) this.1, (h3 i e y he hy).2.fz hS hid hb h0 hle (fun _ h => h) this.2⟩
  | dmap es =>
    obtain ⟨ents, clock, h1, h2, h3, h4⟩ := h
    exact ⟨ents, clock, h1, h2, fun i e x he hx => ⟨DX.fz (h3 i e x he hx).1 (fun _ h => .inl h), DX.fz (h3 i e x he hx).2 (fun _ h => .inl h)⟩, h4⟩
  | dead => trivial

def fzE (id : Nat) (ab : AB) : Env → Env
  | [] => []
  | (t, v) :: r => (t, v.fz id ab) :: fzE id ab r
def fzEOK (id : Nat) (ab : AB) : Env → Prop
  | [] => True
  | (_, v) :: r => v.fzOK id ab ∧ fzEOK id ab r
def fzS (id : Nat) (ab : AB) : List (Nat × AB) → List (Nat × AB)
  | [] => []
  | (i, x) :: r => (i, match Nat.beq i id with
    | true => .dead
    | false => fzB id ab x) :: fzS id ab r
def fzSOK (id : Nat) (ab : AB) : List (Nat × AB) → Prop
  | [] => True
  | (i, x) :: r => (match Nat.beq i id with
    | true => True
    | false => fzBOK id ab x) ∧ fzSOK id ab r
theorem fzS_get {id : Nat} {ab : AB} : ∀ {s : List (Nat × AB)}, fzSOK id ab s → (fzS id ab s).map (·.1) = s.map (·.1) ∧ ∀ i y, (i, y) ∈ fzS id ab s → ∃ x, (i, x) ∈ s ∧ ((i = id ∧ y = .dead) ∨ (i ≠ id ∧ y = fzB id ab x ∧ fzBOK id ab x))
  | [], _ => ⟨rfl, fun i y h => by simp [fzS] at h⟩
  | (j, x) :: r, h => by
    simp only [fzSOK] at h
    obtain ⟨k1, k2⟩ := fzS_get h.2
    refine ⟨by simp [fzS, k1], fun i y hy => ?_⟩
    simp only [fzS] at hy
    rcases List.mem_cons.1 hy with e | hy
    · cases hb : Nat.beq j id with
      | true =>
        rw [hb] at e
        cases e
        exact ⟨x, by simp, .inl ⟨beq_t hb, rfl⟩⟩
      | false =>
        rw [hb] at e h
        cases e
        exact ⟨x, by simp, .inr ⟨beq_f hb, rfl, h.1⟩⟩
    · obtain ⟨x', h1, h2⟩ := k2 i y hy
      exact ⟨x', List.mem_cons_of_mem _ h1, h2⟩

theorem GV.freeze (id : Nat) {ab : AB} (hid : sfind s id = some ab) (hd : ab ≠ .dead) (hE : fzEOK id ab env) (hSo : fzSOK id ab s) : GV cx n env [] s (fzE id ab env) (fzS id ab s) := by
  intro z a w M F U h0 hC hZ
  have hS := hC.st
  obtain ⟨b, hb⟩ := hS.tot id ab (sfind_mem hid)
  obtain ⟨k1, k2⟩ := fzS_get hSo
  have hbl : b < w.heap.size := hS.lt (r := .g id) (sfind_mem hid) hd hb
  have live : ∀ i y, (i, y) ∈ fzS id ab s → y ≠ .dead → ∃ x, (i, x) ∈ s ∧ i ≠ id ∧ y = fzB id ab x ∧ fzBOK id ab x ∧ x ≠ .dead := fun i y h hy => by
    obtain ⟨x, h1, h2 | h2⟩ := k2 i y h
    · exact absurd h2.2 hy
    · exact ⟨x, h1, h2.1, h2.2.1, h2.2.2, fun e => hy (by rw [h2.2.1, e]; rfl)⟩
  refine ⟨M, fun c => F c ∨ c = b, fun c => U c ∨ c = b, ⟨⟨fun r y c hr hm => ?_, fun r r' y y' c h1 h2 d1 d2 m1 m2 => ?_, fun r y c hr hy hm => ?_, by rw [k1]; exact hS.nd, fun c hc => hc.imp (hS.FU c) (fun h => h), fun c hc => ?_, hS.dom, fun i y h => ?_, fun i h => hS.gdom i fun x hx => ?_⟩, hC.gl.mono (fun _ h => .inl h) hS.FU (.refl _ _), fun t => ?_, hC.size, hC.defers⟩,
    ⟨hZ.g, fun c hc => .inl (hZ.FF c hc), fun c hc => .inl (hZ.UU c hc), fun c hc => ?_, hZ.ext, hZ.ll, fun i y c h1 h2 h3 => ?_, fun i y h => ?_⟩⟩
  · cases r with
    | l k => simp [Here] at hr
    | g i =>
      by_cases hy : y = .dead
      · subst hy; trivial
      · obtain ⟨x, h1, _, rfl, h3, _⟩ := live i y hr hy
        exact (hS.rb (.g i) x c h1 hm).fz hS hid hb (M0 := M.glo) hb M.glo_le h3
  · cases r with
    | l k => simp [Here] at h1
    | g i =>
      cases r' with
      | l k => simp [Here] at h2
      | g i' =>
        obtain ⟨x, p1, _, _, _, p5⟩ := live i y h1 d1
        obtain ⟨x', q1, _, _, _, q5⟩ := live i' y' h2 d2
        exact hS.inj (.g i) (.g i') x x' c p1 q1 p5 q5 m1 m2
  · cases r with
    | l k => simp [Here] at hr
    | g i =>
      obtain ⟨x, p1, p2, _, _, p5⟩ := live i y hr hy
      rintro (h | rfl)
      · exact hS.nU (.g i) x c p1 p5 hm h
      · have := hS.inj (.g i) (.g id) x ab c p1 (sfind_mem hid) p5 hd hm hb
        exact p2 (by cases this; rfl)
  · rcases hc with h | rfl
    · exact hS.Ult c h
    · exact hbl
  · obtain ⟨x, h1, _⟩ := k2 i y h
    exact hS.tot i x h1
  · have : i ∈ (fzS id ab s).map (·.1) := by rw [k1]; exact List.mem_map.2 ⟨_, hx, rfl⟩
    obtain ⟨⟨j, y⟩, p1, p2⟩ := List.mem_map.1 this
    simp only at p2
    subst p2
    exact h y p1
  · have key : ∀ {env : Env}, fzEOK id ab env → ∀ {u : Value}, RV M F w (look env t) u → RV M (fun c => F c ∨ c = b) w (look (fzE id ab env) t) u := by
      intro env
      induction env with
      | nil => intro _ u _; exact .undef _
      | cons x r ih =>
        obtain ⟨i, y⟩ := x
        intro hok u h
        simp only [fzEOK] at hok
        simp only [fzE, look] at h ⊢
        split
        · rename_i hb'
          rw [hb'] at h
          exact RV.fz hS hid hb hb (.refl M) (fun _ h => h) h hok.1
        · rename_i hb'
          rw [hb'] at h
          exact ih hok.2 h
    exact key hE (hC.env t)
  · rcases hc with h | rfl
    · exact hZ.Fn c h
    · exact .inr (hZ.lg id ab c (sfind_mem hid) hd hb)
  · obtain ⟨x, p1, _, _, _, p5⟩ := live i y h1 h2
    exact hZ.lg i x c p1 p5 h3
  · obtain ⟨x, h1, _⟩ := k2 i y h
    exact hZ.ids i x h1

/-- Slots that are told on no more. -/
def dropE (ks : List Nat) : Env → Env
  | [] => []
  | (t, v) :: r => (t, match memB t ks with
    | true => v
    | false => .undef) :: dropE ks r
theorem GV.drop (ks : List Nat) : GV cx n env [] s (dropE ks env) s := by
  intro z a w M F U _ hC hZ
  refine ⟨M, F, U, ⟨hC.st, hC.gl, fun t => ?_, hC.size, hC.defers⟩, hZ⟩
  have key : ∀ {env : Env} {u : Value}, RV M F w (look env t) u → RV M F w (look (dropE ks env) t) u := by
    intro env
    induction env with
    | nil => intro u _; exact .undef _
    | cons x r ih =>
      obtain ⟨i, y⟩ := x
      intro u h
      simp only [dropE, look] at h ⊢
      split
      · rename_i hb
        rw [hb] at h
        split
        · exact h
        · exact .undef _
      · rename_i hb
        rw [hb] at h
        exact ih h
  exact key (hC.env t)

/-- An object that is wanted no more. -/
theorem GV.kill (id : Nat) {ab : AB} (hid : sfind s id = some ab) : GV cx n env [] s env (sput s id .dead) := by
  intro z a w M F U _ hC hZ
  have hE := eff_kill hC.st hid
  exact ⟨M, F, U, ⟨hE.st, hC.gl, hC.env, hC.size, hC.defers⟩, hZ.eff hE⟩
end
end Go.Pv
