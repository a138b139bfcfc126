/- A law that answers true, whatever its input: its row, of its contract. -/
import Derived.Test.YtkenimmellonjaaPvX
namespace Go.Pv
open Go.RowKit Go.ChangeShapes Go.WideShapes

/-- An argument of a type that is data. -/
def ArgD (T : Nat → Option TI) (n t : Nat) (x : AV) : Prop := match T t with
  | some ti => match ti.agg with
    | true => ∃ xs, Dat T n t xs ∧ x = .agg (xs.map .d)
    | false => ∃ y, Dat T n t [y] ∧ x = .d y
  | none => False
def ArgsD (T : Nat → Option TI) (n : Nat) : List Nat → List AV → Prop
  | [], xs => xs = []
  | t :: ts, xs => ∃ x r, xs = x :: r ∧ ArgD T n t x ∧ ArgsD T n ts r
def datTs (T : Nat → Option TI) (n : Nat) : List Nat → Bool
  | [] => true
  | t :: r => datT T n t && datTs T n r

section
variable {H : Type} {enc : TypeId × Value → H} {P : Program} {T : Nat → Option TI} {w : World} {base : Nat} {spare : Nat → Bool} {held : Bool}

theorem okWide_plain (hT : TabOK P T) {n t : Nat} {ti : TI} (ht : T t = some ti) (hd : datT T n t = true) {r : Reach} {b0 : Nat} {v : Value} (h : Value.okWide P w r b0 t v) : (ti.agg = true → ∃ cs, v = .agg cs) ∧ (ti.agg = false → v.cells = #[v]) := by
  obtain ⟨hu, hag, _⟩ := hT t ti ht
  cases n with
  | zero => simp [datT] at hd
  | succ n =>
    simp only [datT, ht] at hd
    cases hti : ti.u <;> rw [hti] at hd hu hag <;> simp only at hd <;> try (cases hd; done)
    case int k =>
      obtain ⟨m, rfl⟩ := okWide_int hu h
      exact ⟨fun e => by simp [e] at hag, fun _ => rfl⟩
    case bool =>
      obtain ⟨m, rfl⟩ := okWide_bool hu h
      exact ⟨fun e => by simp [e] at hag, fun _ => rfl⟩
    case string =>
      refine ⟨fun e => by simp [e] at hag, fun _ => ?_⟩
      simp only [Value.okWide, hu, Cell.okWide] at h
      cases v <;> simp_all [Cell.ok, Value.cells]
    case slice e =>
      refine ⟨fun e => by simp [e] at hag, fun _ => ?_⟩
      simp only [Value.okWide, hu, Cell.okWide] at h
      cases v <;> simp_all [Cell.ok, Value.cells]
    case struct fs =>
      refine ⟨fun _ => ?_, fun e => ?_⟩
      · simp only [Value.okWide, hu] at h
        obtain ⟨cs, h, _⟩ := h
        exact ⟨cs, h⟩
      · rw [hag.2 (.inl ⟨fs, rfl⟩)] at e; cases e

theorem arg_rv (hT : TabOK P T) {n t : Nat} (hd : datT T n t = true) {r : Reach} {b0 : Nat} {v : Value} {d : DataW H} {ps : List MemPlace} (hok : Value.okWide P w r b0 t v) (h : DataW.Trod enc P w base spare held t v d ps) :
    ∃ x, ArgD T n t x ∧ ∀ M, RV M (fun b => b < w.heap.size) w x v := by
  obtain ⟨fuel, h⟩ := h
  obtain ⟨xs, h1, h2, h3⟩ := trod_dat hT n t _ fuel _ hd h
  have : ∃ ti, T t = some ti := by
    cases n with
    | zero => simp [datT] at hd
    | succ n =>
      cases ht : T t with
      | none => simp [datT, ht] at hd
      | some ti => exact ⟨ti, rfl⟩
  obtain ⟨ti, ht⟩ := this
  obtain ⟨k1, k2⟩ := okWide_plain hT ht hd hok
  unfold ArgD
  rw [ht]
  simp only
  cases hag : ti.agg with
  | true =>
    obtain ⟨cs, rfl⟩ := k1 hag
    refine ⟨_, ⟨xs, h1, rfl⟩, fun M => ?_⟩
    have := RV.agg (M := M) (F := fun b => b < w.heap.size) (w := w) (xs.map AV.d) cs.toList (by simp [Value.cells] at h2; simp [h2]) (fun j u hu => by
      have hj := (List.getElem?_eq_some_iff.1 hu).1
      have hj2 : j < xs.length := by simp [Value.cells] at h2; simp at hj; omega
      exact (h3 j _ u (List.getElem?_eq_getElem hj2) (by simpa [Value.cells] using hu)).oneCell) (fun j x u hx hu => by
      rw [List.getElem?_map] at hx
      obtain ⟨y, hy, rfl⟩ := Option.map_eq_some_iff.1 hx
      exact .d (h3 j y u hy (by simpa [Value.cells] using hu)))
    simpa using this
  | false =>
    have hc := k2 hag
    rw [hc] at h2 h3
    match xs, h2, h1, h3 with
    | [y], _, h1, h3 => exact ⟨_, ⟨y, h1, rfl⟩, fun M => .d (h3 0 y v rfl rfl)⟩

theorem args_rv (hT : TabOK P T) {n : Nat} : ∀ (ts : List TypeId) (vs : List Value) (ds : List (DataW H)) (ps : List MemPlace), datTs T n ts = true →
    (∀ (j : Nat) t v, ts[j]? = some t → vs[j]? = some v → ∃ r b0, Value.okWide P w r b0 t v) → DataW.TrodAll enc P w base spare held ts vs ds ps →
    ∃ xs, ArgsD T n ts xs ∧ xs.length = vs.length ∧ ∀ (j : Nat) (x : AV) (v : Value), xs[j]? = some x → vs[j]? = some v → ∀ M, RV M (fun b => b < w.heap.size) w x v
  | [], vs, ds, ps, _, _, h => by
    obtain ⟨rfl, _, _⟩ := trodAll_nil h
    exact ⟨[], rfl, rfl, fun j x v hx => by simp at hx⟩
  | t :: ts, vs, ds, ps, hd, hok, h => by
    obtain ⟨v, vs', d, ds', p, q, rfl, rfl, rfl, h1, h2⟩ := trodAll_cons h
    simp only [datTs, Bool.and_eq_true] at hd
    obtain ⟨r, b0, hv⟩ := hok 0 t v rfl rfl
    obtain ⟨x, hx1, hx2⟩ := arg_rv hT hd.1 hv h1
    obtain ⟨xs, k1, k2, k3⟩ := args_rv hT ts vs' ds' q hd.2 (fun j t v ht hv => hok (j + 1) t v (by simpa using ht) (by simpa using hv)) h2
    refine ⟨x :: xs, ⟨x, xs, rfl, hx1, k1⟩, by simp [k2], fun j y u hy hu => ?_⟩
    cases j with
    | zero => simp at hy hu; subst hy; subst hu; exact hx2
    | succ j => exact k3 j y u (by simpa using hy) (by simpa using hu)

theorem trodAll_below (hl : laidOutB P = true) {W W' : World} (hb : Below W.heap.size W W') {sp : Nat → Bool} (hsp : ∀ b, b < W.heap.size → sp b = true) : ∀ (ts : List TypeId) (vs : List Value) (ds : List (DataW H)) (ps : List MemPlace), (ts.all fun t => P.readableRec t && decide (t < P.types.size)) = true →
    (∀ x ∈ ps, x.block < W.heap.size) → DataW.TrodAll enc P W 0 (fun _ => true) true ts vs ds ps → DataW.TrodAll enc P W' 0 sp true ts vs ds ps
  | [], vs, ds, ps, _, _, h => by
    obtain ⟨rfl, rfl, rfl⟩ := trodAll_nil h
    exact trodAll_mk0
  | t :: ts, vs, ds, ps, hr, hlt, h => by
    obtain ⟨v, vs', d, ds', p, q, rfl, rfl, rfl, h1, h2⟩ := trodAll_cons h
    simp only [List.all_cons, Bool.and_eq_true, decide_eq_true_eq] at hr
    exact ⟨p, q, WideElems.Trod_stays hl hr.1.1 hr.1.2 h1 (fun x hx => hb.same (hlt x (by simp [hx]))) (fun x hx => hsp _ (hlt x (by simp [hx]))), trodAll_below hl hb hsp ts vs' ds' q (by simpa using hr.2) (fun x hx => hlt x (by simp [hx])) h2, rfl⟩

/-- The law's call. -/
theorem law_calls (hT : TabOK P T) {G : Gl} (hG : ∀ g, G g = none) {n f : Nat} {fn : Func} {s : ChangeSpec} {apart fresh handsOn again : Bool} {tb : TypeId} (hl : laidOutB P = true) (hres : fn.resultTypes = #[tb]) (htb : P.underlying tb = some .bool) (hdat : datTs T n fn.params.toList = true)
    (hr : (fn.params.toList.all fun t => P.readableRec t && decide (t < P.types.size)) = true) (hvars : s.vars = [])
    (hspec : ∀ ds : List (DataW H), ds.length = fn.params.size → s.fn H ds = { results := [.lit (.bool true)], args := ds })
    (hC : ∀ xs, ArgsD T n fn.params.toList xs → Contract P G f xs [] (fun r t => r = .d (.bool true) ∧ t = []))
    {W : World} {base : Nat} {args : Array Value} {ds gs : List (DataW H)} {before : List MemPlace}
    (hval : ∀ (j : Nat) t v, fn.params[j]? = some t → args[j]? = some v → Value.okWide P W .any base t v)
    (hW : DataW.Whole enc P fn.params.toList s.vars apart W args.toList ds gs before) : Calls P f args W fun e W' => ∃ v, e = .returned v ∧ s.post enc P fn apart fresh handsOn again W args v W' := by
  have hlt := hW.lt
  have hW0 := hW
  obtain ⟨p, q, hA, hV, rfl, hfz, hnd⟩ := hW
  rw [hvars] at hV
  obtain ⟨rfl, rfl⟩ := trodVars_none hV
  simp only [List.append_nil] at hlt hW0 hfz hnd
  obtain ⟨xs, h1, h2, h3⟩ := args_rv hT fn.params.toList args.toList ds p hdat (fun j t v ht hv => ⟨_, _, hval j t v (by simpa using ht) (by simpa using hv)⟩) hA
  have hdl : ds.length = fn.params.size := by
    have : ∀ (ts : List TypeId) (vs : List Value) (ds : List (DataW H)) (ps : List MemPlace), DataW.TrodAll enc P W 0 (fun _ => true) true ts vs ds ps → ds.length = ts.length := by
      intro ts
      induction ts with
      | nil => intro vs ds ps h; obtain ⟨_, rfl, _⟩ := trodAll_nil h; rfl
      | cons t ts ih =>
        intro vs ds ps h
        obtain ⟨v, vs', d, ds', p, q, rfl, rfl, rfl, _, h⟩ := trodAll_cons h
        simp [ih vs' ds' q h]
    rw [this _ _ _ _ hA]
    simp
  have hS : St ⟨fun _ => none, fun _ => none⟩ (fun b => b < W.heap.size) (fun b => b < W.heap.size) [] [] W :=
    ⟨fun r ab b hr hm => by cases r <;> simp [Here] at hr, fun r r' a1 a2 b hr => by cases r <;> simp [Here] at hr, fun r ab b hr => by cases r <;> simp [Here] at hr, .nil, fun b h => h, fun b h => h, fun _ _ => rfl, fun id ab h => (by simp at h), fun _ _ => rfl⟩
  have := (hC xs h1).2 (fun _ => none) (fun b => b < W.heap.size) (fun b => b < W.heap.size) W args.toList hS (fun g cs hg => by rw [hG g] at hg; cases hg) h2.symm (fun j x v hx hv => h3 j x v hx hv _)
  simp only [Array.toArray_toList] at this
  refine this.mono ?_
  rintro e W' ⟨v, res, s', g', F', U', rfl, ⟨rfl, rfl⟩, _, _, _, _, _, hX, _, hrv⟩
  have hv := hrv.bool_inv
  subst hv
  have hb : Below W.heap.size W W' := ⟨hX.os, hX.tape, hX.output, hX.size, hX.block⟩
  have htrue : ∀ (b : Nat) (sp : Nat → Bool) (hd : Bool), DataW.TrodAll enc P W' b sp hd fn.resultTypes.toList ((Value.bool true).resultList fn.resultTypes.size) [.lit (.bool true)] [] := by
    intro b sp hd
    rw [hres]
    exact trodAll_mk1 (shut_bool htb true)
  have hargs := trodAll_below hl hb (sp := fun b => decide (b < W.heap.size)) (fun b h => by simpa using h) fn.params.toList args.toList ds p hr hlt hA
  refine ⟨_, rfl, ds, [], p, [], p, [], hW0, ?_, ?_, ?_, hb.frame _, fun _ => ⟨ok_one (t := tb) hres rfl (okWide_bool_mk htb true), .lit (.bool true) :: ds, [], p, ⟨p, [], ?_, by rw [hvars]; exact rfl, by simp, ?_, hnd⟩, fun x hx _ => hx⟩⟩
  · rw [List.append_nil, hspec ds hdl]
    exact htrue _ _ _
  · rw [List.append_nil, hspec ds hdl]
    exact hargs
  · have : (s.fn H (ds ++ [])).vars = [] := by rw [List.append_nil, hspec ds hdl]
    rw [this, hvars]
    exact rfl
  · have h1 := htrue 0 (fun _ => true) true
    have h2 : DataW.TrodAll enc P W' 0 (fun _ => true) true fn.params.toList args.toList ds p := trodAll_below hl hb (fun _ _ => rfl) fn.params.toList args.toList ds p hr hlt hA
    rw [hres] at h1 ⊢
    exact trodAll_append h2 h1
  · intro b off hp
    rw [hb.frozen (p := ⟨b, off, none⟩) (hlt _ hp)]
    exact hfz b off hp
end
end Go.Pv
