/- More rules: a slice literal, len, slices of data. -/
import Derived.Test.YtkenimmellonjaaPvJ
namespace Go.Pv
open Go.RowKit
section
variable {P : Program} {G : Gl} {T : Nat → Option TI} {o : Oper} {rh : Operand → AV} {L : List AB} {s : List (Nat × AB)}

/-! ### A literal's elements -/
theorem foldl_set (cs : List Value) : ∀ (off : Nat) (st : Nat) (arr : Array Value) (x : Nat), ((cs.zipIdx st).foldl (fun a (p : Value × Nat) => a.setIfInBounds (off + p.2) p.1) arr)[x]? =
    if off + st ≤ x ∧ x < off + st + cs.length ∧ x < arr.size then cs[x - (off + st)]? else arr[x]? := by
  induction cs with
  | nil => intro off st arr x; simp; intro h1 h2; omega
  | cons c cs ih =>
    intro off st arr x
    rw [List.zipIdx_cons, List.foldl_cons, ih]
    simp only [Array.size_setIfInBounds, List.length_cons]
    by_cases h : off + st = x
    · subst h
      by_cases h2 : off + st < arr.size
      · rw [if_neg (by omega), if_pos (by omega)]
        simp [h2]
      · rw [if_neg (by omega), if_neg (by omega)]
        simp [h2]
    · rw [Array.getElem?_setIfInBounds_ne h]
      by_cases h3 : off + (st + 1) ≤ x ∧ x < off + (st + 1) + cs.length ∧ x < arr.size
      · rw [if_pos h3, if_pos (by omega)]
        have : x - (off + st) = (x - (off + (st + 1))) + 1 := by omega
        rw [this, List.getElem?_cons_succ]
      · rw [if_neg h3, if_neg (by omega)]

theorem fill_row {sz : Nat} : ∀ (vals : List Value) (k : Nat) (pre : List Value) (post : List Value), pre.length = k * sz → post.length = vals.length * sz → (∀ v ∈ vals, v.cells.size = sz) →
    Instr.fill (fun i => some (i * sz, sz)) (pre ++ post).toArray ((vals.zipIdx k).map fun p => (p.2, p.1)) = some (pre ++ vals.flatMap fun v => v.cells.toList).toArray
  | [], k, pre, post, h1, h2, h3 => by
    have : post = [] := List.eq_nil_of_length_eq_zero (by simpa using h2)
    subst this
    simp [Instr.fill]
  | v :: vals, k, pre, post, h1, h2, h3 => by
    have hv := h3 v (by simp)
    simp only [List.length_cons, Nat.succ_mul] at h2
    rw [List.zipIdx_cons, List.map_cons]
    simp only [Instr.fill]
    rw [if_neg (by simp [hv, h1]; omega)]
    have hset : (v.cells.zipIdx.foldl (fun cs (c, j) => cs.setIfInBounds (k * sz + j) c) (pre ++ post).toArray) = ((pre ++ v.cells.toList) ++ post.drop sz).toArray := by
      apply Array.ext_getElem?
      intro x
      have hz : v.cells.zipIdx.foldl (fun cs (c, j) => cs.setIfInBounds (k * sz + j) c) (pre ++ post).toArray = ((v.cells.toList.zipIdx 0).foldl (fun a (p : Value × Nat) => a.setIfInBounds (k * sz + p.2) p.1) (pre ++ post).toArray) := by
        rw [← Array.foldl_toList]
        congr 1
        simp
      rw [hz, foldl_set]
      simp only [Nat.add_zero, List.size_toArray, List.length_append, List.getElem?_toArray, Array.length_toList, hv]
      by_cases hx : k * sz ≤ x ∧ x < k * sz + sz ∧ x < pre.length + post.length
      · rw [if_pos hx, List.getElem?_append_left (by simp [hv]; omega), List.getElem?_append_right (by omega), h1]
      · rw [if_neg hx]
        by_cases hx2 : x < k * sz
        · rw [List.getElem?_append_left (by omega), List.getElem?_append_left (by simp; omega), List.getElem?_append_left (by omega)]
        · rw [List.getElem?_append_right (by omega), List.getElem?_append_right (by simp [hv]; omega), List.getElem?_drop]
          congr 1
          simp [hv]
          omega
    rw [hset]
    rw [fill_row vals (k + 1) (pre ++ v.cells.toList) (post.drop sz) (by simp [hv, h1, Nat.succ_mul]) (by simp; omega) (fun u hu => h3 u (by simp [hu]))]
    simp

/-- The rows of values that are data. -/
def dataRows : List AV → Option (List (List DV))
  | [] => some []
  | x :: r => match undD x.cells with
    | some c => match dataRows r with
      | some rs => some (c :: rs)
      | none => none
    | none => none
def allLen (sz : Nat) : List (List DV) → Bool
  | [] => true
  | r :: rs => Nat.beq r.length sz && allLen sz rs
theorem undD_map : ∀ {xs : List AV} {c : List DV}, undD xs = some c → xs = c.map .d
  | [], c, h => by simp [undD] at h; subst h; rfl
  | .d x :: r, c, h => by
    simp only [undD] at h
    obtain ⟨c', h1, rfl⟩ := Option.map_eq_some_iff.1 h
    simp [undD_map h1]
  | .agg _ :: _, _, h => by simp [undD] at h
  | .tup _ :: _, _, h => by simp [undD] at h
  | .ref _ _ :: _, _, h => by simp [undD] at h
  | .slc _ _ _ _ _ :: _, _, h => by simp [undD] at h
  | .el _ _ _ _ :: _, _, h => by simp [undD] at h
  | .mp _ :: _, _, h => by simp [undD] at h
  | .fn _ _ :: _, _, h => by simp [undD] at h
  | .ifc _ _ :: _, _, h => by simp [undD] at h
  | .undef :: _, _, h => by simp [undD] at h
theorem dataRows_get : ∀ {xs : List AV} {rows : List (List DV)}, dataRows xs = some rows → rows.length = xs.length ∧ ∀ (i : Nat) (r : List DV), rows[i]? = some r → ∃ x, xs[i]? = some x ∧ undD x.cells = some r
  | [], rows, h => by simp [dataRows] at h; subst h; simp
  | x :: xs, rows, h => by
    simp only [dataRows] at h
    split at h
    · rename_i c hc
      split at h
      · rename_i rs hrs
        cases h
        obtain ⟨h1, h2⟩ := dataRows_get hrs
        refine ⟨by simp [h1], fun i r hr => ?_⟩
        cases i with
        | zero => simp at hr; subst hr; exact ⟨x, rfl, hc⟩
        | succ i => exact h2 i r (by simpa using hr)
      · cases h
    · cases h
theorem allLen_get {sz : Nat} : ∀ {rows : List (List DV)}, allLen sz rows = true → ∀ r ∈ rows, r.length = sz
  | [], _, r, h => by cases h
  | x :: xs, h, r, hr => by
    simp only [allLen, Bool.and_eq_true] at h
    rcases List.mem_cons.1 hr with rfl | hr
    · exact beq_t h.1
    · exact allLen_get h.2 r hr

theorem flat_get {sz : Nat} : ∀ (vals : List Value), (∀ v ∈ vals, v.cells.size = sz) → ∀ (i j : Nat) (v : Value), vals[i]? = some v → j < sz → (vals.flatMap fun v => v.cells.toList)[i * sz + j]? = v.cells[j]?
  | [], _, i, j, v, h, _ => by simp at h
  | u :: us, hall, i, j, v, h, hj => by
    have hu := hall u (by simp)
    rw [List.flatMap_cons]
    cases i with
    | zero =>
      simp at h
      subst h
      rw [List.getElem?_append_left (by simp [hu]; omega)]
      simp
    | succ i =>
      rw [List.getElem?_append_right (by simp [hu, Nat.succ_mul]; omega)]
      simp only [Array.length_toList, hu]
      rw [show (i + 1) * sz + j - sz = i * sz + j by rw [Nat.succ_mul]; omega]
      exact flat_get us (fun v hv => hall v (by simp [hv])) i j v (by simpa using h) hj

def idxs (k : Nat) : List (Nat × Operand) → Bool
  | [] => true
  | (i, _) :: r => Nat.beq i k && idxs (k + 1) r
theorem idxs_map {a : Act} : ∀ {l : List (Nat × Operand)} {k : Nat}, idxs k l = true → (l.map fun p => (p.1, a.eval p.2)) = (((l.map fun p => a.eval p.2).zipIdx k).map fun p => (p.2, p.1))
  | [], k, _ => rfl
  | (i, x) :: r, k, h => by
    simp only [idxs, Bool.and_eq_true] at h
    have := beq_t h.1
    subst this
    simp [List.zipIdx_cons, ← idxs_map h.2]

/-- A slice literal's run. -/
theorem run_lit (hT : TabOK P T) {t e : TypeId} {ti te : TI} (ht : T t = some ti) (hu : ti.u = .slice e) (hte : T e = some te) {len : Nat} {parts : Array (Nat × Operand)} (hp : parts.toList.length = len) (hi : idxs 0 parts.toList = true)
    (hbig : len * te.size ≤ 16777216) {a : Act} (hc : ∀ p ∈ parts.toList, (a.eval p.2).cells.size = te.size) (w : World) :
    (Instr.buildSlice t len (parts.map fun p => (p.1, a.eval p.2))).run P w = .ok (.slice (some ⟨w.heap.size, 0, none⟩) len len) (w.alloc (.cells ((parts.toList.map fun p => a.eval p.2).flatMap fun v => v.cells.toList).toArray e)) := by
  obtain ⟨h1, _⟩ := hT t ti ht
  obtain ⟨_, _, i, z, zs, h3, h4, h5, h6, h7, h8, h9, h10, h11⟩ := hT e te hte
  have hfill : ∀ zz : Array Value, Instr.fill (fun i => some (i * te.size, te.size)) ((Array.range (len * te.size)).map (zz[· % zz.size]!)) (parts.map fun p => (p.1, a.eval p.2)).toList = some ((parts.toList.map fun p => a.eval p.2).flatMap fun v => v.cells.toList).toArray := by
    intro zz
    rw [Array.toList_map, idxs_map hi]
    have := fill_row (sz := te.size) (parts.toList.map fun p => a.eval p.2) 0 [] ((Array.range (len * te.size)).map (zz[· % zz.size]!)).toList (by simp) (by simp [hp]) (fun v hv => by
      obtain ⟨p, hp1, rfl⟩ := List.mem_map.1 hv
      exact hc p hp1)
    simp only [List.nil_append, Array.toArray_toList] at this
    exact this
  unfold Instr.buildSlice
  simp only [Sem.run_bind, run_underlying' h1, hu, Result.andThen_ok, run_sizeOf' h3, h4]
  rw [if_neg (by omega)]
  by_cases h0 : len * te.size = 0
  · rw [if_pos h0]
    simp only [Sem.run_bind, Sem.run_pure, Result.andThen_ok, hfill, newRow, run_newObj]
    rfl
  · rw [if_neg h0]
    simp only [Sem.run_bind, Sem.run_pure, Result.andThen_ok, run_zeroValue' h3 h6, hfill, newRow, run_newObj]
    rfl

/-- The cells of a literal's values. -/
theorem lit_cells {M : Mp} {F : Nat → Prop} {w : World} {a : Act} {sz : Nat} {parts : List (Nat × Operand)} {rows : List (List DV)} (hd : dataRows (parts.map fun p => rh p.2) = some rows) (hl : allLen sz rows = true)
    (hx : ∀ p ∈ parts, RV M F w (rh p.2) (a.eval p.2)) :
    (∀ p ∈ parts, (a.eval p.2).cells.size = sz) ∧ rows.length = parts.length ∧
      ∀ (i : Nat) (r : List DV) (j : Nat) (x : DV), rows[i]? = some r → r[j]? = some x → ∃ u, ((parts.map fun p => a.eval p.2).flatMap fun v => v.cells.toList)[i * sz + j]? = some u ∧ u.oneCell' = true ∧ RD F w x u := by
  obtain ⟨h1, h2⟩ := dataRows_get hd
  have hrow : ∀ (i : Nat) (r : List DV) (p : Nat × Operand), rows[i]? = some r → parts[i]? = some p → r.length = sz ∧ (a.eval p.2).cells.size = sz ∧ ∀ (j : Nat) (x : DV) (u : Value), r[j]? = some x → (a.eval p.2).cells[j]? = some u → u.oneCell' = true ∧ RD F w x u := by
    intro i r p hr hp
    obtain ⟨x, hx1, hx2⟩ := h2 i r hr
    rw [List.getElem?_map, hp] at hx1
    simp at hx1
    subst hx1
    have hlen := allLen_get hl r (List.mem_of_getElem? hr)
    have hun := undD_map hx2
    have hpm := hx p (List.mem_of_getElem? hp)
    have hcell := hpm.cells (fun vs e => by rw [e] at hx2; simp [AV.cells, undD] at hx2) (fun e => by rw [e] at hx2; simp [AV.cells, undD] at hx2)
    refine ⟨hlen, by rw [hcell.1, hun]; simpa using hlen, fun j y u hy hu => ?_⟩
    have := hcell.2 j (.d y) u (by rw [hun, List.getElem?_map, hy]; rfl) hu
    refine ⟨this.1, ?_⟩
    cases this.2 with
    | d h => exact h
  have hsz : ∀ p ∈ parts, (a.eval p.2).cells.size = sz := by
    intro p hp
    obtain ⟨i, hi, rfl⟩ := List.mem_iff_getElem.1 hp
    have hil : i < rows.length := by rw [h1]; simpa using hi
    exact (hrow i rows[i] parts[i] (List.getElem?_eq_getElem hil) (List.getElem?_eq_getElem hi)).2.1
  refine ⟨hsz, by rw [h1]; simp, fun i r j x hr hx' => ?_⟩
  have hil : i < parts.length := by have := (List.getElem?_eq_some_iff.1 hr).1; rw [h1] at this; simpa using this
  obtain ⟨q1, q2, q3⟩ := hrow i r parts[i] hr (List.getElem?_eq_getElem hil)
  have hj : j < sz := by rw [← q1]; exact (List.getElem?_eq_some_iff.1 hx').1
  have hju : j < (a.eval parts[i].2).cells.size := by omega
  refine ⟨(a.eval parts[i].2).cells[j], ?_, q3 j x _ hx' (Array.getElem?_eq_getElem hju)⟩
  rw [flat_get (sz := sz) _ (fun v hv => by obtain ⟨p, hp, rfl⟩ := List.mem_map.1 hv; exact hsz p hp) i j (a.eval parts[i].2) (by rw [List.getElem?_map, List.getElem?_eq_getElem hil]; rfl) hj]
  exact Array.getElem?_eq_getElem hju

/-- A slice literal that nobody writes: data from the first. -/
def litv (sz : Nat) (rows : List (List DV)) : DV := match rows with
  | [] => .emp
  | _ :: _ => .list sz rows
theorem pj_lit (hT : TabOK P T) {t e : TypeId} {ti te : TI} (ht : T t = some ti) (hu : ti.u = .slice e) (hte : T e = some te) {len : Nat} {parts : Array (Nat × Operand)} (ho : o.op = .buildSlice t len parts) (hp : parts.toList.length = len) (hi : idxs 0 parts.toList = true)
    (hbig : len * te.size ≤ 16777216) {rows : List (List DV)} (hd : dataRows (parts.toList.map fun p => rh p.2) = some rows) (hl : allLen te.size rows = true) : PJ P G o rh L s (.d (litv te.size rows)) [] := by
  intro M F U w a hS hG hx
  obtain ⟨c1, c2, c3⟩ := lit_cells (M := M) (F := F) (w := w) (a := a) hd hl (fun p hp => hx p.2 (by rw [ho]; simp only [Op.operands]; exact List.mem_map.2 ⟨p, hp, rfl⟩))
  have hrun := run_lit hT ht hu hte hp hi hbig c1 w
  let o1 : Obj := .cells ((parts.toList.map fun p => a.eval p.2).flatMap fun v => v.cells.toList).toArray e
  have hX := ext_alloc w o1
  have hF1 : ∀ b, F b → b < w.heap.size := fun b hb => hS.Ult b (hS.FU b hb)
  have hRD : RD (fun b => F b ∨ b = w.heap.size) (w.alloc o1) (.list te.size rows) (.slice (some ⟨w.heap.size, 0, none⟩) rows.length rows.length) := by
    refine .list te.size rows ⟨w.heap.size, 0, none⟩ rows.length (fun i j => ((((parts.toList.map fun p => a.eval p.2).flatMap fun v => v.cells.toList)[i * te.size + j]?).getD Go.undef)) (Nat.le_refl _) (.inr rfl) (fun i r hr => allLen_get hl r (List.mem_of_getElem? hr)) (fun i j hi hj => ?_) (fun i r hr j x hx => ?_)
    · have hrow : rows[i]? = some rows[i] := List.getElem?_eq_getElem hi
      have hjl : j < rows[i].length := by rw [allLen_get hl rows[i] (List.getElem_mem hi)]; exact hj
      obtain ⟨u, hu1, _⟩ := c3 i rows[i] j rows[i][j] hrow (List.getElem?_eq_getElem hjl)
      rw [add_plain, hu1]
      have hh : (w.alloc o1).heap[w.heap.size]? = some o1 := heap_alloc_new w o1
      simp only [World.cell?, hh, o1]
      simpa using hu1
    · obtain ⟨u, hu1, _, hu2⟩ := c3 i r j x hr hx
      rw [hu1]
      exact hu2.mono (fun _ h => .inl h) (fun b hb => hX.block b (hF1 b hb))
  refine wp_value (val := .slice (some ⟨w.heap.size, 0, none⟩) len len) (w' := w.alloc o1) ?_ ⟨_, M, fun b => F b ∨ b = w.heap.size, fun b => U b ∨ b = w.heap.size, rfl, .refl M, fun _ _ => rfl, fun k b hk hb => (by rw [hS.dom k hk] at hb; cases hb), fun _ h => .inl h, fun _ h => .inl h, fun b hb => ?_, fun b hb => ?_, hX, ?_, ?_⟩
  · simp only [execOp, ho, Sem.run_bind]
    rw [hrun]
    rfl
  · exact hb.imp id (fun h => by omega)
  · exact hb.imp id (fun h => by omega)
  · simp only [List.append_nil]
    refine ⟨fun r ab b hr hm => (hS.rb r ab b hr hm).mono (.refl _) (fun _ h => .inl h) hF1 hX (fun hd' => hX.block b (hS.lt hr hd' hm)), hS.inj, fun r ab b hr hd' hm hu' => ?_, hS.nd, fun b hb => hb.imp (hS.FU b) id, fun b hb => ?_, hS.dom, hS.tot, hS.gdom⟩
    · rcases hu' with h | h
      · exact hS.nU r ab b hr hd' hm h
      · have := hS.lt hr hd' hm; omega
    · simp only [World.size_alloc]
      rcases hb with h | h
      · have := hS.Ult b h; omega
      · omega
  · cases rows with
    | nil =>
      simp only [List.length_nil] at c2
      rw [← hp, ← c2]
      exact .d (.emp _)
    | cons r rs =>
      rw [c2, hp] at hRD
      exact .d hRD

/-! ### len -/
def vlen (x : AV) : Option Int := match x with
  | .d (.list _ rows) => some (rows.length : Int)
  | .d .nil => some 0
  | .d .emp => some 0
  | .slc _ _ _ len _ => some (len : Int)
  | _ => none
theorem pj_len (hT : TabOK P T) {t e ty : TypeId} {ti : TI} (ht : T t = some ti) (hu : ti.u = .slice e) {x : Operand} {n : Int} (ho : o.op = .call { callee := .builtin .len, args := #[x], argTypes := #[t] }) (_ : ty = ty) (hv : vlen (rh x) = some n) : PJ P G o rh L s (.d (.int .i64 n)) [] := by
  refine pj_value fun M F U w a hS hG hx => ⟨.int .i64 n, ?_, .d (.int _ _)⟩
  obtain ⟨h1, _⟩ := hT t ti ht
  have h2 := hx x (by simp [ho, Op.operands, Call.operands])
  have h3 : ∃ A c m, a.eval x = .slice A m c ∧ n = (m : Int) := by
    unfold vlen at hv
    generalize he : a.eval x = u at h2
    split at hv <;> try (cases hv; done)
    · rename_i sz rows e1
      cases hv
      rw [e1] at h2
      cases h2 with
      | d h2 => cases h2 with
        | empty _ A c => exact ⟨A, c, 0, rfl, rfl⟩
        | list _ _ ad c u hc hN hl hm hr => exact ⟨_, c, _, rfl, rfl⟩
    · rename_i e1
      cases hv
      rw [e1] at h2
      rw [h2.nil_inv]
      exact ⟨none, 0, 0, rfl, rfl⟩
    · rename_i e1
      cases hv
      rw [e1] at h2
      cases h2 with
      | d h2 => cases h2 with
        | emp A => exact ⟨A, 0, 0, rfl, rfl⟩
    · rename_i r sz off len e1
      cases hv
      rw [e1] at h2
      cases h2 with
      | slc _ _ _ _ _ b hm hc hs => exact ⟨_, _, _, rfl, rfl⟩
      | slc0 _ _ _ A => exact ⟨_, _, _, rfl, rfl⟩
  obtain ⟨A, c, m, h4, rfl⟩ := h3
  simp only [execOp, ho, resolve, invoke, builtin, Sem.run_bind, Sem.run_pure, Result.andThen_ok, List.map_toArray, List.map_cons, List.map_nil, h4, Builtin.len_]
  simp [run_underlying' h1, hu, goInt]

theorem pj_nilCheck {x : Operand} (ho : o.op = .nilCheck x) (hn : match rh x with | .ref _ _ => True | .el _ _ _ _ => True | .d (.ptr _ _) => True | .fn _ _ => True | _ => False) : PJ P G o rh L s (rh x) [] := by
  refine pj_value fun M F U w a hS hG hx => ?_
  have h1 := hx x (by simp [ho, Op.operands])
  refine ⟨a.eval x, ?_, h1⟩
  split at hn
  · rename_i r off e
    rw [e] at h1
    generalize he : a.eval x = u at h1
    cases h1 with
    | ref _ _ b hm => simp [execOp, ho, he]
  · rename_i r sz i j e
    rw [e] at h1
    generalize he : a.eval x = u at h1
    cases h1 with
    | el _ _ _ _ b hm => simp [execOp, ho, he]
  · rename_i cs off e
    rw [e] at h1
    generalize he : a.eval x = u at h1
    cases h1 with
    | d h1 => cases h1 with
      | ptr _ _ ad u hN hm hr => simp [execOp, ho, he]
  · rename_i f caps e
    rw [e] at h1
    generalize he : a.eval x = u at h1
    cases h1 with
    | fn _ _ vs hl h => simp [execOp, ho, he]
  · exact hn.elim

end
end Go.Pv
