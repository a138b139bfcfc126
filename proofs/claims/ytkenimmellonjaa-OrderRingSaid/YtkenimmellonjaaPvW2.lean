/- A slot that is nil, or an empty literal, told as the empty list. -/
import Derived.Test.YtkenimmellonjaaPvW
import Derived.Test.YtkenimmellonjaaPvY
namespace Go.Pv
open Go.RowKit
variable {P : Program} {cx : Ctx} {n : Nat} {env : Env} {s : List (Nat × AB)}
def wkV (sz : Nat) : AV → AV
  | .d .nil => .d (.list sz [])
  | .d .emp => .d (.list sz [])
  | v => v
theorem wkV_rv {M : Mp} {F : Nat → Prop} {w : World} {x : AV} {v : Value} (sz : Nat) (h : RV M F w x v) : RV M F w (wkV sz x) v := by
  have one : ∀ {x y : AV}, WkL [x] [y] → RV M F w x v → RV M F w y v := fun hw h =>
    hw.rv (vals := [v]) (fun j x u hx hu => by
      cases j with
      | zero => simp at hx hu; subst hx; subst hu; exact h
      | succ j => simp at hx) 0 _ v rfl rfl
  unfold wkV
  split
  · exact one (.n sz .nil) h
  · exact one (.e sz .nil) h
  · exact h
def wkE (t0 sz : Nat) : Env → Env
  | [] => []
  | (t, v) :: r => (t, match Nat.beq t0 t with
    | true => wkV sz v
    | false => v) :: wkE t0 sz r
theorem GV.wk (t0 sz : Nat) : GV cx n env [] s (wkE t0 sz env) s := by
  intro z a w M F U _ hC hZ
  refine ⟨M, F, U, ⟨hC.st, hC.gl, fun t => ?_, hC.size, hC.defers⟩, hZ⟩
  have key : ∀ {env : Env} {u : Value}, RV M F w (look env t) u → RV M F w (look (wkE t0 sz env) t) u := by
    intro env
    induction env with
    | nil => intro u _; exact .undef _
    | cons x r ih =>
      obtain ⟨i, y⟩ := x
      intro u h
      simp only [wkE, look] at h ⊢
      split
      · rename_i hb
        rw [hb] at h
        split
        · exact wkV_rv sz h
        · exact h
      · rename_i hb
        rw [hb] at h
        exact ih h
  exact key (hC.env t)
theorem Contract.wk {G : Gl} {f : Nat} {args args' : List AV} {R : AV → List (Nat × AB) → Prop} (h : Contract P G f args' s R) (hw : WkL args args') : Contract P G f args s R :=
  ⟨h.1, fun g F U w vals hS hG hl hv => h.2 g F U w vals hS hG (by rw [hl, hw.len]) (hw.rv hv)⟩
/-- A slice of ints that came in. -/
theorem arg_ints {T : Nat → Option TI} {n t e : Nat} {ti te : TI} {x : AV} (ht : T t = some ti) (hu : ti.u = .slice e) (ha : ti.agg = false) (he : T e = some te) (hk : te.u = .int .i64) (hsz : te.size = 1) (h : ArgD T (n + 2) t x) :
    ∃ ms : List Int, ms.length ≤ maxLen ∧ (∀ m ∈ ms, IntKind.min .i64 ≤ m ∧ m ≤ IntKind.max .i64) ∧ ∀ {r r' : List AV}, WkL r r' → WkL (x :: r) (.d (.list 1 (ms.map fun m => [.int .i64 m])) :: r') := by
  simp only [ArgD, ht, ha] at h
  obtain ⟨y, h, rfl⟩ := h
  simp only [Dat, ht, hu, he] at h
  rcases h with h | ⟨rows, h1, h2, h⟩
  · cases h
    exact ⟨[], by simp, by simp, fun hw => .n 1 hw⟩
  · cases h
    have : ∃ ms : List Int, rows = ms.map (fun m => [DV.int .i64 m]) ∧ ∀ m ∈ ms, IntKind.min .i64 ≤ m ∧ m ≤ IntKind.max .i64 := by
      clear h1
      induction rows with
      | nil => exact ⟨[], rfl, by simp⟩
      | cons r rs ih =>
        obtain ⟨ms, h3, h4⟩ := ih fun x hx => h2 x (List.mem_cons_of_mem _ hx)
        have h5 := h2 r (List.mem_cons_self ..)
        simp only [hk] at h5
        obtain ⟨m, h6, h7, h8⟩ := h5
        refine ⟨m :: ms, by rw [h3, h8]; rfl, ?_⟩
        intro x hx
        rcases List.mem_cons.1 hx with rfl | hx
        · exact ⟨h6, h7⟩
        · exact h4 x hx
    obtain ⟨ms, rfl, h3⟩ := this
    refine ⟨ms, by simpa using h1, h3, fun hw => ?_⟩
    rw [hsz]
    exact .s _ hw
end Go.Pv
