/- The rules of the single operations: numbers, bools, places, loads, new memory. -/
import Derived.Test.YtkenimmellonjaaPvC
namespace Go.Pv
open Go.RowKit
section
variable {P : Program} {G : Gl} {T : Nat → Option TI} {o : Oper} {rh : Operand → AV} {L : List AB} {s : List (Nat × AB)} {M : Mp} {F : Nat → Prop} {w : World}

theorem RV.int_inv {k : IntKind} {n : Int} {v : Value} (h : RV M F w (.d (.int k n)) v) : v = .int k n := by cases h with | d h => cases h; rfl
theorem RV.bool_inv {b : Bool} {v : Value} (h : RV M F w (.d (.bool b)) v) : v = .bool b := by cases h with | d h => cases h; rfl
theorem RV.str_inv {b : ByteArray} {v : Value} (h : RV M F w (.d (.str b)) v) : v = .string b := by cases h with | d h => cases h; rfl
theorem RV.raw_inv {u v : Value} (h : RV M F w (.d (.raw u)) v) : v = u := by cases h with | d h => cases h; rfl
theorem RV.nil_inv {v : Value} (h : RV M F w (.d .nil) v) : v = .slice none 0 0 := by cases h with | d h => cases h; rfl

theorem pj_move {x : Operand} (ho : o.op = .move x) : PJ P G o rh L s (rh x) [] :=
  pj_value fun M F U w a hS hG hx => ⟨a.eval x, by simp [execOp, ho], hx x (by simp [ho, Op.operands])⟩
theorem pj_assign {x : Operand} (ho : o.op = .assign x) : PJ P G o rh L s (rh x) [] :=
  pj_value fun M F U w a hS hG hx => ⟨a.eval x, by simp [execOp, ho], hx x (by simp [ho, Op.operands])⟩

theorem run_icmp {op : BinOp} {a b : Int} {r : Bool} (h : icmp op a b = some r) (k : IntKind) (t : TypeId) (x y : Operand) (w : World) :
    (do eqGuard op t x y (.int k a) (.int k b); binOp op t (.int k a) (.int k b) : Sem Value).run P w = .ok (.bool r) w := by
  cases op <;> simp [icmp] at h <;> subst h <;> simp [eqGuard, binOp, Op.intCmp]
theorem run_iarith {op : BinOp} {a b r : Int} {k : IntKind} (h : iarith op k a b = some r) (t : TypeId) (x y : Operand) (w : World) :
    (do eqGuard op t x y (.int k a) (.int k b); binOp op t (.int k a) (.int k b) : Sem Value).run P w = .ok (.int k r) w := by
  cases op <;> simp [iarith] at h <;> subst h <;> simp [eqGuard, binOp, Op.intArith]

def scmp (op : BinOp) (a b : ByteArray) : Option Bool := match op with
  | .eql => some (a.toList == b.toList)
  | .neq => some (!(a.toList == b.toList))
  | _ => none
theorem run_scmp {op : BinOp} {a b : ByteArray} {r : Bool} (h : scmp op a b = some r) (t : TypeId) (x y : Operand) (w : World) :
    (do eqGuard op t x y (.string a) (.string b); binOp op t (.string a) (.string b) : Sem Value).run P w = .ok (.bool r) w := by
  cases op <;> simp only [scmp] at h <;> first | (cases h; done) | (cases h; rfl)
/-- An operator on two values. -/
def vbin (op : BinOp) (x y : AV) : Option AV := match x, y with
  | .d (.str a), .d (.str b) => match scmp op a b with
    | some r => some (.d (.bool r))
    | none => none
  | .d (.int k a), .d (.int k' b) => if k = k' then (match icmp op a b with
    | some r => some (.d (.bool r))
    | none => match iarith op k a b with
      | some r => some (.d (.int k r))
      | none => none) else none
  | _, _ => none

theorem pj_bin {op : BinOp} {t ty : TypeId} {x y : Operand} {v : AV} (ho : o.op = .binOp op t x y ty) (h : vbin op (rh x) (rh y) = some v) : PJ P G o rh L s v [] := by
  refine pj_value fun M F U w a hS hG hx => ?_
  have h1 := hx x (by simp [ho, Op.operands])
  have h2 := hx y (by simp [ho, Op.operands])
  unfold vbin at h
  split at h
  · rename_i a1 b1 e1 e2
    rw [e1] at h1; rw [e2] at h2
    split at h
    · rename_i r hr
      cases h
      refine ⟨.bool r, ?_, .d (.bool r)⟩
      simp only [execOp, ho, h1.str_inv, h2.str_inv]
      rw [Sem.run_bind, run_scmp hr]; rfl
    · cases h
  · rename_i k a1 k' b1 e1 e2
    rw [e1] at h1; rw [e2] at h2
    split at h
    · rename_i hk
      subst hk
      split at h
      · rename_i r hr
        cases h
        refine ⟨.bool r, ?_, .d (.bool r)⟩
        simp only [execOp, ho, h1.int_inv, h2.int_inv]
        rw [Sem.run_bind, run_icmp hr]; rfl
      · split at h
        · rename_i r hr
          cases h
          refine ⟨.int k r, ?_, .d (.int k r)⟩
          simp only [execOp, ho, h1.int_inv, h2.int_inv]
          rw [Sem.run_bind, run_iarith hr]; rfl
        · cases h
    · cases h
  · cases h

/-- A division: by what is not 0. -/
theorem pj_div {op : BinOp} {t ty : TypeId} {x y : Operand} {k : IntKind} {a1 b1 r : Int} (ho : o.op = .binOp op t x y ty) (hx1 : rh x = .d (.int k a1)) (hy1 : rh y = .d (.int k b1)) (h0 : b1 ≠ 0)
    (hr : (op = .quo ∧ r = k.wrap (a1.tdiv b1)) ∨ (op = .rem ∧ r = a1.tmod b1)) : PJ P G o rh L s (.d (.int k r)) [] := by
  refine pj_value fun M F U w a hS hG hx => ?_
  have h1 := hx x (by simp [ho, Op.operands])
  have h2 := hx y (by simp [ho, Op.operands])
  rw [hx1] at h1; rw [hy1] at h2
  refine ⟨.int k r, ?_, .d (.int k r)⟩
  simp only [execOp, ho, h1.int_inv, h2.int_inv]
  rcases hr with ⟨rfl, rfl⟩ | ⟨rfl, rfl⟩ <;> simp [eqGuard, binOp, Op.intDiv, h0]

def vun (op : UnOp) (x : AV) : Option AV := match op, x with
  | .not, .d (.bool b) => some (.d (.bool (!b)))
  | .neg, .d (.int k n) => some (.d (.int k (k.wrap (0 - n))))
  | _, _ => none
theorem pj_un {op : UnOp} {t : TypeId} {x : Operand} {v : AV} (ho : o.op = .unOp op t x) (h : vun op (rh x) = some v) : PJ P G o rh L s v [] := by
  refine pj_value fun M F U w a hS hG hx => ?_
  have h1 := hx x (by simp [ho, Op.operands])
  unfold vun at h
  split at h
  · rename_i b e1
    rw [e1] at h1
    cases h
    exact ⟨_, by simp [execOp, ho, h1.bool_inv, Op.unary], .d (.bool _)⟩
  · rename_i k n e1
    rw [e1] at h1
    cases h
    exact ⟨_, by simp [execOp, ho, h1.int_inv, Op.unary, Op.intArith], .d (.int _ _)⟩
  · cases h

/-- pick: what is picked is known; what is not need not be. -/
theorem pj_pick {c x y : Operand} {p b1 b2 : Bool} (ho : o.op = .pick c x y) (hc : rh c = .d (.bool p)) (M : Mp) (F U : Nat → Prop) (w : World) (a : Act) (hS : St M F U L s w)
    (h1 : RV M F w (rh c) (a.eval c)) (h2 : p = true → RV M F w (.d (.bool b1)) (a.eval x)) (h3 : p = false → RV M F w (.d (.bool b2)) (a.eval y)) :
    o.wp P a w (fun a' w' => ∃ val M' F' U', a' = a.put o.dst val ∧ Grew M F U w L s [] (.d (.bool (cond p b1 b2))) val M' F' U' w') (fun _ _ _ => False) := by
  rw [hc] at h1
  have h4 := h1.bool_inv
  cases p with
  | true =>
    have h5 := (h2 rfl).bool_inv
    refine wp_value (val := .bool b1) (w' := w) ?_ ⟨_, M, F, U, rfl, .same hS (.d (.bool _))⟩
    simp [execOp, ho, h4, h5, asBool]
  | false =>
    have h5 := (h3 rfl).bool_inv
    refine wp_value (val := .bool b2) (w' := w) ?_ ⟨_, M, F, U, rfl, .same hS (.d (.bool _))⟩
    simp [execOp, ho, h4, h5, asBool]

theorem pj_extract {x : Operand} {i : Nat} {vs : List AV} {v : AV} (ho : o.op = .extract x i) (hx1 : rh x = .tup vs) (hv : vs[i]? = some v) : PJ P G o rh L s v [] := by
  refine pj_value fun M F U w a hS hG hx => ?_
  have h1 := hx x (by simp [ho, Op.operands])
  rw [hx1] at h1
  generalize he : a.eval x = u at h1
  cases h1 with
  | tup cs us hl h =>
    have hi : i < us.length := by
      have := (List.getElem?_eq_some_iff.1 hv).1
      omega
    refine ⟨us[i], ?_, h i v us[i] hv (List.getElem?_eq_getElem hi)⟩
    simp only [execOp, ho, he, Instr.extract, List.getElem?_toArray, List.getElem?_eq_getElem hi]
    rfl

theorem arr_map {α β : Type} (xs : Array α) (f : α → β) : (xs.toList.map f).toArray = xs.map f := by apply Array.ext'; simp
theorem pj_makeFunc {f : Nat} {caps : Array Operand} (ho : o.op = .makeFunc (.func f) #[] caps) : PJ P G o rh L s (.fn f (caps.toList.map rh)) [] := by
  refine pj_value fun M F U w a hS hG hx => ?_
  refine ⟨.func (.func f) #[] ((caps.toList.map a.eval).toArray), ?_, .fn f _ _ (by simp) (fun j x v hj hv => ?_)⟩
  · simp only [execOp, ho, Instr.makeFunc, Array.map_empty, arr_map]
    rfl
  · simp only [List.getElem?_map, Option.map_eq_some_iff] at hj hv
    obtain ⟨c, hc, rfl⟩ := hj
    obtain ⟨c', hc', rfl⟩ := hv
    rw [hc] at hc'
    cases hc'
    exact hx c (by simp only [ho, Op.operands]; simpa using List.mem_of_getElem? hc)

/-! ### Loads -/
theorem run_loadVar_cells {hT : TabOK P T} {t : TypeId} {ti : TI} (ht : T t = some ti) (a : Addr) (us : List Value) (hlen : us.length = ti.size)
    (hc : ∀ j v, us[j]? = some v → w.cell? (a.add j) = some v) : ∃ val, (loadVar t a).run P w = .ok val w ∧ (ti.agg = true → val = .agg us.toArray) ∧ (ti.agg = false → us = [val]) := by
  obtain ⟨h1, h2, i, z, zs, h3, h4, h5, h6, h7, h8, h9, h10, h11⟩ := hT t ti ht
  unfold loadVar
  simp only [Sem.run_bind, run_isAgg' hT ht, Result.andThen_ok]
  cases hag : ti.agg with
  | true =>
    refine ⟨.agg us.toArray, ?_, fun _ => rfl, fun h => (by cases h)⟩
    simp only [if_true, Sem.run_bind, run_sizeOf' h3, Result.andThen_ok, h4, ← hlen]
    rw [run_loadCells_list _ a us hc]
    rfl
  | false =>
    obtain ⟨h12, h13⟩ := h11 hag
    have hl : us.length = 1 := by rw [hlen, ← h9, h12]; rfl
    match us, hl with
    | [u], _ =>
      refine ⟨u, ?_, fun h => (by cases h), fun _ => rfl⟩
      have := hc 0 u rfl
      simp only [Bool.false_eq_true, if_false]
      rw [show a.add 0 = a from by simp [Addr.add]] at this
      simp [this]

/-- A value out of its cells. -/
theorem RV.ofCells {ag : Bool} {xs : List AV} {us : List Value} {v : AV} {val : Value} (hv : ofCells ag xs = some v) (h1 : ag = true → val = .agg us.toArray) (h2 : ag = false → us = [val]) (hl : us.length = xs.length)
    (ho : ∀ (j : Nat) (u : Value), us[j]? = some u → u.oneCell' = true) (h : ∀ (j : Nat) (x : AV) (u : Value), xs[j]? = some x → us[j]? = some u → RV M F w x u) : RV M F w v val := by
  cases ag with
  | true =>
    simp only [Pv.ofCells] at hv
    cases hv
    rw [h1 rfl]
    exact .agg xs us hl ho h
  | false =>
    have h3 := h2 rfl
    subst h3
    match xs, hl, hv, h with
    | [x], _, hv, h =>
      simp only [Pv.ofCells] at hv
      cases hv
      exact h 0 _ _ rfl rfl

theorem get_takeN {α : Type} {xs : List α} {off n j : Nat} {x : α} (h : (takeN xs off n)[j]? = some x) : xs[off + j]? = some x := by
  unfold takeN at h
  rw [List.getElem?_take] at h
  split at h
  · rwa [List.getElem?_drop] at h
  · cases h

/-- From a block of cells. -/
theorem pj_load_cells (hT : TabOK P T) {t : TypeId} {ti : TI} (ht : T t = some ti) {x : Operand} {r : Rf} {off : Nat} {cs : List AV} {v : AV} (ho : o.op = .load t x) (hx1 : rh x = .ref r off)
    (hr : Here L s r (.cells cs)) (hlen : (takeN cs off ti.size).length = ti.size) (hv : ofCells ti.agg (takeN cs off ti.size) = some v) : PJ P G o rh L s v [] := by
  refine pj_value fun M F U w a hS hG hx => ?_
  have h1 := hx x (by simp [ho, Op.operands])
  rw [hx1] at h1
  generalize he : a.eval x = u at h1
  cases h1 with
  | ref _ _ b hm =>
    obtain ⟨arr, tt, hb, hsz, hc⟩ := hS.rb r _ b hr hm
    have hget : ∀ j, j < ti.size → ∃ y, cs[off + j]? = some y ∧ (takeN cs off ti.size)[j]? = some y := by
      intro j hj
      have hj' : j < (takeN cs off ti.size).length := by omega
      exact ⟨_, get_takeN (List.getElem?_eq_getElem hj'), List.getElem?_eq_getElem hj'⟩
    have harr : ∀ j, j < ti.size → ∃ u, arr[off + j]? = some u := by
      intro j hj
      obtain ⟨y, h2, _⟩ := hget j hj
      have := (List.getElem?_eq_some_iff.1 h2).1
      exact ⟨_, Array.getElem?_eq_getElem (by omega)⟩
    have hus : ∀ j, ((List.range ti.size).map fun j => (arr[off + j]?).getD Go.undef)[j]? = if j < ti.size then arr[off + j]? else none := by
      intro j
      by_cases hj : j < ti.size
      · obtain ⟨u, hu⟩ := harr j hj
        simp [hj, hu]
      · simp [hj]
    obtain ⟨val, hrun, hv1, hv2⟩ := run_loadVar_cells (P := P) (w := w) (hT := hT) ht ⟨b, off, none⟩ ((List.range ti.size).map fun j => (arr[off + j]?).getD Go.undef) (by simp) (fun j u hu => by
      rw [hus] at hu
      split at hu
      · rw [add_plain]; simp [World.cell?, hb, hu]
      · cases hu)
    refine ⟨val, ?_, RV.ofCells hv hv1 hv2 (by simp [hlen]) (fun j u hu => ?_) (fun j y u hy hu => ?_)⟩
    · simp only [execOp, ho, he, Instr.loadAt, Instr.sureAddr, Sem.run_bind, Sem.run_pure, Result.andThen_ok, hrun]
    · rw [hus] at hu
      split at hu
      · rename_i hj
        obtain ⟨y, h2, _⟩ := hget j hj
        exact (hc _ y u h2 hu).1
      · cases hu
    · rw [hus] at hu
      split at hu
      · exact (hc _ y u (get_takeN hy) hu).2.mono (M.sub_le r) (fun _ h => h) hS.FU (.refl _ _)
      · cases hu

/-- From data behind a pointer. -/
theorem pj_load_ptr (hT : TabOK P T) {t : TypeId} {ti : TI} (ht : T t = some ti) {x : Operand} {off : Nat} {cs : List DV} {v : AV} (ho : o.op = .load t x) (hx1 : rh x = .d (.ptr cs off))
    (hlen : (takeN cs off ti.size).length = ti.size) (hv : ofCells ti.agg ((takeN cs off ti.size).map .d) = some v) : PJ P G o rh L s v [] := by
  refine pj_value fun M F U w a hS hG hx => ?_
  have h1 := hx x (by simp [ho, Op.operands])
  rw [hx1] at h1
  generalize he : a.eval x = u at h1
  cases h1 with
  | d h1 =>
    cases h1 with
    | ptr _ _ ad u hN hm hr =>
      obtain ⟨val, hrun, hv1, hv2⟩ := run_loadVar_cells (P := P) (w := w) (hT := hT) ht (ad.add off) ((List.range ti.size).map fun j => u (off + j)) (by simp) (fun j y hy => by
        have hj : j < ti.size := by have := (List.getElem?_eq_some_iff.1 hy).1; simpa using this
        simp [hj] at hy
        subst hy
        have hj' : j < (takeN cs off ti.size).length := by omega
        have := (List.getElem?_eq_some_iff.1 (get_takeN (List.getElem?_eq_getElem hj'))).1
        rw [add_of_add]
        exact hm _ this)
      have hat : ∀ j u', ((List.range ti.size).map fun j => u (off + j))[j]? = some u' → j < ti.size ∧ u' = u (off + j) := by
        intro j u' hy
        have hj : j < ti.size := by have := (List.getElem?_eq_some_iff.1 hy).1; simpa using this
        simp [hj] at hy
        exact ⟨hj, hy.symm⟩
      refine ⟨val, ?_, RV.ofCells hv hv1 hv2 (by simp [hlen]) (fun j y hy => ?_) (fun j z y hz hy => ?_)⟩
      · simp only [execOp, ho, he, Instr.loadAt, Instr.sureAddr, Sem.run_bind, Sem.run_pure, Result.andThen_ok, hrun]
      · obtain ⟨hj, rfl⟩ := hat j y hy
        have hj' : j < (takeN cs off ti.size).length := by omega
        exact (hr _ _ (get_takeN (List.getElem?_eq_getElem hj'))).oneCell
      · obtain ⟨hj, rfl⟩ := hat j y hy
        rw [List.getElem?_map] at hz
        obtain ⟨z', hz', rfl⟩ := Option.map_eq_some_iff.1 hz
        exact .d (hr _ _ (get_takeN hz'))

/-- From an element of a row of one's own. -/
theorem pj_load_row (hT : TabOK P T) {t : TypeId} {ti : TI} (ht : T t = some ti) {x : Operand} {r : Rf} {sz i j0 : Nat} {rows : List (List DV)} {row : List DV} {v : AV} (ho : o.op = .load t x) (hx1 : rh x = .el r sz i j0)
    (hr : Here L s r (.row sz rows)) (hrow : rows[i]? = some row) (hlen : (takeN row j0 ti.size).length = ti.size) (hv : ofCells ti.agg ((takeN row j0 ti.size).map .d) = some v) : PJ P G o rh L s v [] := by
  refine pj_value fun M F U w a hS hG hx => ?_
  have h1 := hx x (by simp [ho, Op.operands])
  rw [hx1] at h1
  generalize he : a.eval x = u at h1
  cases h1 with
  | el _ _ _ _ b hm =>
    obtain ⟨arr, tt, hb, hsz, hrl, hone, hc⟩ := hS.rb r _ b hr hm
    have hrs : row.length = sz := hrl i row hrow
    have hin : ∀ j, j < row.length → i * sz + j < arr.size := by
      intro j hj
      have hi := (List.getElem?_eq_some_iff.1 hrow).1
      have : (i + 1) * sz ≤ rows.length * sz := Nat.mul_le_mul_right _ hi
      rw [Nat.succ_mul] at this
      omega
    have hget : ∀ j, j < ti.size → ∃ y, row[j0 + j]? = some y := by
      intro j hj
      have hj' : j < (takeN row j0 ti.size).length := by omega
      exact ⟨_, get_takeN (List.getElem?_eq_getElem hj')⟩
    have harr : ∀ j, j < ti.size → ∃ u, arr[i * sz + (j0 + j)]? = some u := by
      intro j hj
      obtain ⟨y, h2⟩ := hget j hj
      exact ⟨_, Array.getElem?_eq_getElem (hin _ (List.getElem?_eq_some_iff.1 h2).1)⟩
    have hus : ∀ j, ((List.range ti.size).map fun j => (arr[i * sz + (j0 + j)]?).getD Go.undef)[j]? = if j < ti.size then arr[i * sz + (j0 + j)]? else none := by
      intro j
      by_cases hj : j < ti.size
      · obtain ⟨u, hu⟩ := harr j hj
        simp [hj, hu]
      · simp [hj]
    obtain ⟨val, hrun, hv1, hv2⟩ := run_loadVar_cells (P := P) (w := w) (hT := hT) ht ⟨b, i * sz + j0, none⟩ ((List.range ti.size).map fun j => (arr[i * sz + (j0 + j)]?).getD Go.undef) (by simp) (fun j u hu => by
      rw [hus] at hu
      split at hu
      · rw [add_plain]; simp [World.cell?, hb, Nat.add_assoc, hu]
      · cases hu)
    refine ⟨val, ?_, RV.ofCells hv hv1 hv2 (by simp [hlen]) (fun j u hu => ?_) (fun j y u hy hu => ?_)⟩
    · simp only [execOp, ho, he, Instr.loadAt, Instr.sureAddr, Sem.run_bind, Sem.run_pure, Result.andThen_ok, hrun]
    · rw [hus] at hu
      split at hu
      · exact hone _ u hu
      · cases hu
    · rw [hus] at hu
      split at hu
      · rw [List.getElem?_map] at hy
        obtain ⟨y', hy', rfl⟩ := Option.map_eq_some_iff.1 hy
        exact .d (hc i row (j0 + j) y' u hrow (get_takeN hy') hu)
      · cases hu

/-! ### New memory -/
theorem run_newVar' (t : TypeId) (v : Value) (w : World) : (newVar t v).run P w = .ok ⟨w.heap.size, 0, none⟩ (w.alloc (.cells v.cells t)) := by
  simp only [newVar, newRow, Sem.run_bind, run_newObj, Result.andThen_ok, Sem.run_pure]
  rfl

/-- A value's cells stand for the value's own. -/
theorem RV.cells {x : AV} {v : Value} (h : RV M F w x v) (hn : ∀ vs, x ≠ .tup vs) (hu : x ≠ .undef) : v.cells.size = x.cells.length ∧ ∀ (j : Nat) (y : AV) (u : Value), x.cells[j]? = some y → v.cells[j]? = some u → u.oneCell' = true ∧ RV M F w y u := by
  have one : ∀ (x : AV) (v : Value), RV M F w x v → v.oneCell' = true → x.cells = [x] → v.cells = #[v] → v.cells.size = x.cells.length ∧ ∀ (j : Nat) (y : AV) (u : Value), x.cells[j]? = some y → v.cells[j]? = some u → u.oneCell' = true ∧ RV M F w y u := by
    intro x v h h1 h2 h3
    rw [h2, h3]
    refine ⟨rfl, fun j y u hy hu => ?_⟩
    match j, hy, hu with
    | 0, hy, hu =>
      simp at hy hu
      subst hy; subst hu
      exact ⟨h1, h⟩
    | j + 1, hy, hu => simp at hy
  cases h with
  | d h =>
    refine one _ _ (.d h) h.oneCell rfl ?_
    have := h.oneCell
    cases v <;> first | rfl | (simp [Value.oneCell'] at this)
  | agg cs vs hl h1 h =>
    exact ⟨by simp [Value.cells, AV.cells, hl], fun j y u hy hu => by
      simp only [AV.cells] at hy
      simp only [Value.cells, List.getElem?_toArray] at hu
      exact ⟨h1 j u hu, h j y u hy hu⟩⟩
  | tup cs vs hl h => exact absurd rfl (hn cs)
  | ref r off b h => exact one _ _ (.ref r off b h) rfl rfl rfl
  | slc r sz off len cap b h hc hs => exact one _ _ (.slc r sz off len cap b h hc hs) rfl rfl rfl
  | slc0 r sz off A => exact one _ _ (.slc0 r sz off A) rfl rfl rfl
  | el r sz i j b h => exact one _ _ (.el r sz i j b h) rfl rfl rfl
  | mp r b h => exact one _ _ (.mp r b h) rfl rfl rfl
  | fn f cs vs hl h => exact one _ _ (.fn f cs vs hl h) rfl rfl rfl
  | ifc t x v h => exact one _ _ (.ifc t x v h) rfl rfl rfl
  | undef v => exact absurd rfl hu

def boxable : AV → Bool
  | .tup _ => false
  | .undef => false
  | _ => true
theorem grew_cells {U : Nat → Prop} {v : AV} {val : Value} {t : TypeId} {cs : List AV} {arr : Array Value} (hS : St M F U L s w) (hsz : arr.size = cs.length)
    (hc : ∀ (j : Nat) (y : AV) (u : Value), cs[j]? = some y → arr[j]? = some u → u.oneCell' = true ∧ RV M F w y u)
    (hv : ∀ w' M', M.Le M' → M'.l L.length = some w.heap.size → Ext (fun b => b < w.heap.size) w w' → w'.heap[w.heap.size]? = some (.cells arr t (0, 0)) → RV M' F w' v val) :
    Grew M F U w L s [.cells cs] v val (M.put L.length w.heap.size) F U (w.alloc (.cells arr t)) := by
  have hFU : ∀ b, F b → b < w.heap.size := fun b hb => hS.Ult b (hS.FU b hb)
  exact grew_alloc hS _ (fun w' M' hle hx hn => ⟨arr, t, hn, hsz, fun j x u hj hu => ⟨(hc j x u hj hu).1, (hc j x u hj hu).2.mono hle (fun _ h => h) hFU hx⟩⟩) hv

theorem pj_box {t : TypeId} {x : Operand} (ho : o.op = .box t x) (hb : boxable (rh x) = true) : PJ P G o rh L s (.ref (.l L.length) 0) [.cells (rh x).cells] := by
  intro M F U w a hS hG hx
  have h1 := hx x (by simp [ho, Op.operands])
  have h2 := h1.cells (fun vs e => by rw [e] at hb; simp [boxable] at hb) (fun e => by rw [e] at hb; simp [boxable] at hb)
  refine wp_value (val := .pointer (some ⟨w.heap.size, 0, none⟩)) (w' := w.alloc (.cells (a.eval x).cells t)) ?_ ⟨_, _, F, U, rfl, grew_cells hS h2.1 h2.2 (fun w' M' _ hm _ _ => .ref _ _ _ hm)⟩
  simp only [execOp, ho, Instr.box, Sem.run_bind, run_newVar', Result.andThen_ok, Sem.run_pure]

theorem TabOK.zero (hT : TabOK P T) {t : TypeId} {ti : TI} (ht : T t = some ti) : ∃ z, (∀ w, (zeroValue t).run P w = .ok z w) ∧ z.cells.size = ti.zero.length ∧ ∀ (M : Mp) (F : Nat → Prop) (w : World) (j : Nat) (y : DV) (u : Value), ti.zero[j]? = some y → z.cells[j]? = some u → u.oneCell' = true ∧ RV M F w (.d y) u := by
  obtain ⟨h1, h2, i, z, zs, h3, h4, h5, h6, h7, h8, h9, h10, h11⟩ := hT t ti ht
  refine ⟨z, fun w => run_zeroValue' h3 h6 w, ?_, fun M F w j y u hy hu => ?_⟩
  · rw [h7]
    have := congrArg List.length h8
    simp at this
    simp [this]
  · rw [h7] at hu
    simp only [List.getElem?_toArray] at hu
    have h12 : (ti.zero.map dconst)[j]? = (zs.map some)[j]? := by rw [h8]
    simp only [List.getElem?_map, hy, hu, Option.map_some] at h12
    injection h12 with h12
    have := dconst_RD (N := F) (w := w) h12
    exact ⟨this.oneCell, .d this⟩

theorem pj_alloc (hT : TabOK P T) {t : TypeId} {ti : TI} (ht : T t = some ti) (ho : o.op = .alloc t) : PJ P G o rh L s (.ref (.l L.length) 0) [.cells (ti.zero.map .d)] := by
  intro M F U w a hS hG hx
  obtain ⟨z, hz, hsz, hc⟩ := hT.zero ht
  refine wp_value (val := .pointer (some ⟨w.heap.size, 0, none⟩)) (w' := w.alloc (.cells z.cells t)) ?_ ⟨_, _, F, U, rfl, grew_cells hS (by simp [hsz]) (fun j y u hy hu => ?_) (fun w' M' _ hm _ _ => .ref _ _ _ hm)⟩
  · simp only [execOp, ho, Instr.alloc, Sem.run_bind, hz, run_newVar', Result.andThen_ok, Sem.run_pure]
  · rw [List.getElem?_map] at hy
    obtain ⟨y', hy', rfl⟩ := Option.map_eq_some_iff.1 hy
    exact hc M F w j y' u hy' hu

/-! ### Places -/
def vfield (off : Nat) (x : AV) : Option AV := match x with
  | .ref r o => some (.ref r (o + off))
  | .el r sz i j => some (.el r sz i (j + off))
  | .d (.ptr cs o) => some (.d (.ptr cs (o + off)))
  | _ => none
theorem pj_fieldAddr (hT : TabOK P T) {t : TypeId} {ti tf : TI} (ht : T t = some ti) {fs : Array Field} (hu : ti.u = .struct fs) {f : Nat} {fd : Field} (hf : fs[f]? = some fd) (htf : T fd.type = some tf) (h0 : tf.size ≠ 0) {x : Operand} {v : AV}
    (ho : o.op = .fieldAddr t x f) (hv : vfield fd.offset (rh x) = some v) : PJ P G o rh L s v [] := by
  refine pj_value fun M F U w a hS hG hx => ?_
  have h1 := hx x (by simp [ho, Op.operands])
  obtain ⟨h2, _⟩ := hT t ti ht
  obtain ⟨_, _, i, _, _, h3, h4, _⟩ := hT fd.type tf htf
  have run : ∀ ad : Addr, a.eval x = .pointer (some ad) → (execOp a.eval o).run P w = .ok (.value (.pointer (some (ad.add fd.offset)))) w := by
    intro ad he
    simp only [execOp, ho, he, Instr.fieldAt, Sem.run_bind, run_underlying' h2, hu, Result.andThen_ok, hf, Instr.sureAddr, Sem.run_pure, fieldPlace, run_sizeOf' h3, h4]
    simp [h0]
  generalize he : a.eval x = u at h1
  unfold vfield at hv
  split at hv <;> try (cases hv; done)
  · rename_i r o1 e
    cases hv
    rw [e] at h1
    cases h1 with
    | ref _ _ b hm => exact ⟨_, run _ he, by rw [add_plain]; exact .ref _ _ _ hm⟩
  · rename_i r sz i j e
    cases hv
    rw [e] at h1
    cases h1 with
    | el _ _ _ _ b hm => exact ⟨_, run _ he, by rw [add_plain, Nat.add_assoc]; exact .el _ _ _ _ _ hm⟩
  · rename_i cs o1 e
    cases hv
    rw [e] at h1
    cases h1 with
    | d h1 =>
      cases h1 with
      | ptr _ _ ad u hN hm hr => exact ⟨_, run _ he, by rw [add_of_add]; exact .d (.ptr cs _ ad u hN hm hr)⟩

/-- &xs[i] of data. -/
theorem pj_index_list (hT : TabOK P T) {t e : TypeId} {ti te : TI} (ht : T t = some ti) (hu : ti.u = .slice e) (hte : T e = some te) {x y : Operand} {k : IntKind} {n : Int} {sz : Nat} {rows : List (List DV)} {row : List DV}
    (ho : o.op = .indexAddr t x y) (hx1 : rh x = .d (.list sz rows)) (hy1 : rh y = .d (.int k n)) (hsz : te.size = sz) (h0 : 0 ≤ n) (hrow : rows[n.toNat]? = some row) : PJ P G o rh L s (.d (.ptr row 0)) [] := by
  refine pj_value fun M F U w a hS hG hx => ?_
  have h1 := hx x (by simp [ho, Op.operands])
  have h2 := hx y (by simp [ho, Op.operands])
  rw [hx1] at h1; rw [hy1] at h2
  obtain ⟨h3, _⟩ := hT t ti ht
  obtain ⟨_, _, i, _, _, h4, h5, _⟩ := hT e te hte
  have hn := (List.getElem?_eq_some_iff.1 hrow).1
  generalize he : a.eval x = u at h1
  cases h1 with
  | d h1 =>
    cases h1 with
    | empty _ A c => simp at hn
    | list _ _ ad c u hc hN hl hm hr =>
      refine ⟨.pointer (some (ad.add (n.toNat * sz))), ?_, ?_⟩
      · have : n < (rows.length : Int) := by omega
        simp only [execOp, ho, he, h2.int_inv, Instr.indexAt, asIntOf, Sem.run_bind, Sem.run_pure, Result.andThen_ok, run_underlying' h3, hu]
        simp [h0, this, run_sizeOf' h4, h5, hsz]
      · have : RD F w (.ptr row 0) (.pointer (some ((ad.add (n.toNat * sz)).add 0))) := by
          refine .ptr row 0 (ad.add (n.toNat * sz)) (fun j => u n.toNat j) (by rw [block_of_add]; exact hN) (fun j hj => ?_) (fun j x hx => hr n.toNat row hrow j x hx)
          rw [add_of_add]
          exact hm n.toNat j hn (by rw [← hl _ _ hrow]; exact hj)
        rw [add_of_add] at this
        exact .d this

/-- &xs[i] of a row of one's own. -/
theorem pj_index_row (hT : TabOK P T) {t e : TypeId} {ti te : TI} (ht : T t = some ti) (hu : ti.u = .slice e) (hte : T e = some te) {x y : Operand} {k : IntKind} {n : Int} {r : Rf} {sz off len cap : Nat}
    (ho : o.op = .indexAddr t x y) (hx1 : rh x = .slc r sz off len cap) (hy1 : rh y = .d (.int k n)) (hsz : te.size = sz) (h0 : 0 ≤ n) (hn : n < (len : Int)) : PJ P G o rh L s (.el r sz (off + n.toNat) 0) [] := by
  refine pj_value fun M F U w a hS hG hx => ?_
  have h1 := hx x (by simp [ho, Op.operands])
  have h2 := hx y (by simp [ho, Op.operands])
  rw [hx1] at h1; rw [hy1] at h2
  obtain ⟨h3, _⟩ := hT t ti ht
  obtain ⟨_, _, i, _, _, h4, h5, _⟩ := hT e te hte
  generalize he : a.eval x = u at h1
  cases h1 with
  | slc0 _ _ _ A => omega
  | slc _ _ _ _ _ b hm hc hs =>
    refine ⟨.pointer (some ((⟨b, off * sz, none⟩ : Addr).add (n.toNat * sz))), ?_, ?_⟩
    · simp only [execOp, ho, he, h2.int_inv, Instr.indexAt, asIntOf, Sem.run_bind, Sem.run_pure, Result.andThen_ok, run_underlying' h3, hu]
      simp [h0, hn, run_sizeOf' h4, h5, hsz]
    · rw [add_plain, ← Nat.add_mul]
      exact .el r sz _ 0 b hm

end
end Go.Pv
