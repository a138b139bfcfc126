/- Rows of values; slices lent to a callee that only reads. -/
import Derived.Test.YtkenimmellonjaaPvK5
namespace Go.Pv
open Go.RowKit

section
variable {P : Program} {G : Gl} {T : Nat → Option TI} {o : Oper} {rh : Operand → AV} {L : List AB} {s : List (Nat × AB)} {M : Mp} {F F1 U : Nat → Prop} {w w1 : World}

/-! ### Rows -/
structure RowV (F : Nat → Prop) (w : World) (sz : Nat) (rows : List (List DV)) (vals : List Value) : Prop where
  le : rows.length * sz ≤ vals.length
  len : ∀ (i : Nat) (r : List DV), rows[i]? = some r → r.length = sz
  one : ∀ v ∈ vals, v.oneCell' = true
  rd : ∀ (i : Nat) (r : List DV) (j : Nat) (x : DV) (v : Value), rows[i]? = some r → r[j]? = some x → vals[i * sz + j]? = some v → RD F w x v
theorem RowV.mono {sz : Nat} {rows : List (List DV)} {vals : List Value} (h : RowV F w sz rows vals) (hF : ∀ b, F b → F1 b) (hw : ∀ b, F b → w1.heap[b]? = w.heap[b]?) : RowV F1 w1 sz rows vals :=
  ⟨h.le, h.len, h.one, fun i r j x v h1 h2 h3 => (h.rd i r j x v h1 h2 h3).mono hF hw⟩
theorem RowV.nil {sz : Nat} {vals : List Value} (h : ∀ v ∈ vals, v.oneCell' = true) : RowV F w sz [] vals := ⟨by simp, fun i r h => by simp at h, h, fun i r j x v h => by simp at h⟩
theorem idx_row {i n sz j : Nat} (hi : i < n) (hj : j < sz) : i * sz + j < n * sz := by
  calc i * sz + j < i * sz + sz := by omega
    _ = (i + 1) * sz := by rw [Nat.add_mul, Nat.one_mul]
    _ ≤ n * sz := Nat.mul_le_mul_right _ hi
theorem RowV.append {sz : Nat} {r1 r2 : List (List DV)} {v1 v2 : List Value} (h : RowV F w sz r1 v1) (hl : v1.length = r1.length * sz) (k : RowV F w sz r2 v2) : RowV F w sz (r1 ++ r2) (v1 ++ v2) := by
  refine ⟨by have := k.le; simp [Nat.add_mul, hl]; omega, fun i r hi => ?_, fun v hv => ?_, fun i r j x v hi hj hv => ?_⟩
  · by_cases h1 : i < r1.length
    · rw [List.getElem?_append_left h1] at hi; exact h.len i r hi
    · rw [List.getElem?_append_right (by omega)] at hi; exact k.len _ r hi
  · rcases List.mem_append.1 hv with hv | hv
    · exact h.one v hv
    · exact k.one v hv
  · by_cases h1 : i < r1.length
    · rw [List.getElem?_append_left h1] at hi
      have hj' : j < sz := by have := (List.getElem?_eq_some_iff.1 hj).1; have := h.len i r hi; omega
      rw [List.getElem?_append_left (by rw [hl]; exact idx_row h1 hj')] at hv
      exact h.rd i r j x v hi hj hv
    · rw [List.getElem?_append_right (by omega)] at hi
      have he : i * sz + j = v1.length + ((i - r1.length) * sz + j) := by
        rw [hl, ← Nat.add_assoc, ← Nat.add_mul]
        congr 2; omega
      rw [he, List.getElem?_append_right (by omega), Nat.add_sub_cancel_left] at hv
      exact k.rd _ r j x v hi hj hv
theorem RowV.seg {sz : Nat} {rows : List (List DV)} {vals : List Value} (h : RowV F w sz rows vals) {off n : Nat} (hn : off + n ≤ rows.length) : RowV F w sz ((rows.drop off).take n) ((vals.drop (off * sz)).take (n * sz)) ∧ ((vals.drop (off * sz)).take (n * sz)).length = n * sz ∧ ((rows.drop off).take n).length = n := by
  have hle := h.le
  have h1 : (off + n) * sz ≤ rows.length * sz := Nat.mul_le_mul_right _ hn
  rw [Nat.add_mul] at h1
  have hl1 : ((vals.drop (off * sz)).take (n * sz)).length = n * sz := by simp; omega
  have hl2 : ((rows.drop off).take n).length = n := by simp; omega
  refine ⟨⟨by rw [hl1, hl2]; exact Nat.le_refl _, fun i r hi => ?_, fun v hv => h.one v (List.mem_of_mem_drop (List.mem_of_mem_take hv)), fun i r j x v hi hj hv => ?_⟩, hl1, hl2⟩
  · rw [List.getElem?_take] at hi
    split at hi
    · rw [List.getElem?_drop] at hi; exact h.len _ r hi
    · cases hi
  · rw [List.getElem?_take] at hi hv
    split at hi <;> try cases hi
    split at hv <;> try cases hv
    rw [List.getElem?_drop] at hi hv
    refine h.rd (off + i) r j x v hi hj ?_
    rw [← hv, Nat.add_mul, Nat.add_assoc]
theorem RowV.drop {sz : Nat} {rows : List (List DV)} {vals : List Value} (h : RowV F w sz rows vals) (q : Nat) : RowV F w sz (rows.drop q) (vals.drop (q * sz)) := by
  have hle := h.le
  refine ⟨by simp [Nat.sub_mul]; omega, fun i r hi => ?_, fun v hv => h.one v (List.mem_of_mem_drop hv), fun i r j x v hi hj hv => ?_⟩
  · rw [List.getElem?_drop] at hi; exact h.len _ r hi
  · rw [List.getElem?_drop] at hi hv
    refine h.rd (q + i) r j x v hi hj ?_
    rw [← hv, Nat.add_mul, Nat.add_assoc]
/-- Rows written at a place. -/
def splice (rows : List (List DV)) (p : Nat) (new : List (List DV)) : List (List DV) := rows.take p ++ new ++ rows.drop (p + new.length)
theorem RowV.splice {sz : Nat} {rows new : List (List DV)} {vals nv : List Value} (h : RowV F w sz rows vals) (k : RowV F w sz new nv) (hl : nv.length = new.length * sz) {p : Nat} (hp : p ≤ rows.length) :
    RowV F w sz (Pv.splice rows p new) (setN vals (p * sz) nv) := by
  unfold Pv.splice setN
  obtain ⟨q1, q2, q3⟩ := h.seg (off := 0) (n := p) (by omega)
  simp only [List.drop_zero, Nat.zero_mul] at q1 q2 q3
  have := (q1.append (by rw [q2, q3]) k).append (by simp [q2, q3, hl, Nat.add_mul]) (h.drop (p + new.length))
  rw [Nat.add_mul, ← hl] at this
  exact this
theorem RB.row_of {b : Nat} {sz : Nat} {rows : List (List DV)} (h : RB M F w b (.row sz rows)) : ∃ arr t, w.heap[b]? = some (.cells arr t (0, 0)) ∧ RowV F w sz rows arr.toList := by
  obtain ⟨arr, t, h1, h2, h3, h4, h5⟩ := h
  exact ⟨arr, t, h1, by simpa using h2, h3, fun v hv => by
    obtain ⟨j, hj⟩ := List.mem_iff_getElem?.1 hv
    exact h4 j v (by simpa using hj), fun i r j x v hi hj hv => h5 i r j x v hi hj (by simpa using hv)⟩
theorem RB.of_row {b : Nat} {sz : Nat} {rows : List (List DV)} {arr : Array Value} {t : TypeId} (h1 : w.heap[b]? = some (.cells arr t (0, 0))) (h : RowV F w sz rows arr.toList) : RB M F w b (.row sz rows) :=
  ⟨arr, t, h1, by simpa using h.le, h.len, fun j v hv => h.one v (List.mem_of_getElem? (by simpa using hv)), fun i r j x v hi hj hv => h.rd i r j x v hi hj (by simpa using hv)⟩

/-- What a slice yields: rows, cell by cell. -/
def Yields (F : Nat → Prop) (w : World) (sz : Nat) (u : Value) (rows : List (List DV)) : Prop :=
  ∃ A c vals, u = .slice A rows.length c ∧ rows.length ≤ c ∧ vals.length = rows.length * sz ∧ RowV F w sz rows vals ∧ ∀ (j : Nat) (x : Value), vals[j]? = some x → ∃ a, A = some a ∧ w.cell? (a.add j) = some x
def srcK (s : List (Nat × AB)) (sz : Nat) (y : AV) (K : List (List DV) → Prop) : Prop := match y with
  | .d .nil => K []
  | .d .emp => K []
  | .d (.list sz' rows) => match Nat.beq sz' sz with
    | true => K rows
    | false => False
  | .slc (.g id) sz' off len _ => match sfind s id with
    | some (.row sz2 rows) => match Nat.beq sz' sz && Nat.beq sz2 sz with
      | true => off + len ≤ rows.length ∧ K ((rows.drop off).take len)
      | false => False
    | _ => False
  | _ => False
theorem srcK_yields (hS : St M F U L s w) {sz : Nat} {y : AV} {u : Value} {K : List (List DV) → Prop} (hv : RV M F w y u) (h : srcK s sz y K) : ∃ rows, Yields F w sz u rows ∧ K rows := by
  unfold srcK at h
  split at h <;> try exact h.elim
  · refine ⟨[], ⟨none, 0, [], by rw [hv.nil_inv]; rfl, Nat.le_refl _, by simp, .nil (by simp), fun j x h => by simp at h⟩, h⟩
  · cases hv with | d hv => cases hv with
    | emp A => exact ⟨[], ⟨A, 0, [], rfl, Nat.le_refl _, by simp, .nil (by simp), fun j x h => by simp at h⟩, h⟩
  · rename_i sz' rows
    split at h <;> try exact h.elim
    rename_i hb
    have := beq_t hb
    subst this
    refine ⟨rows, ?_, h⟩
    cases hv with | d hv => cases hv with
    | empty _ A c => exact ⟨A, c, [], rfl, Nat.zero_le _, by simp, .nil (by simp), fun j x h => by simp at h⟩
    | list _ _ a c uu hc hN hl hm hr =>
      have hget : ∀ k, k < rows.length * sz' → ∃ i j, i < rows.length ∧ j < sz' ∧ k = i * sz' + j := fun k hk => by
        have hpos : 0 < sz' := by
          rcases Nat.eq_zero_or_pos sz' with e | e
          · rw [e] at hk; simp at hk
          · exact e
        refine ⟨k / sz', k % sz', Nat.div_lt_of_lt_mul (by rw [Nat.mul_comm]; exact hk), Nat.mod_lt _ hpos, ?_⟩
        have := Nat.div_add_mod k sz'
        rw [Nat.mul_comm] at this
        exact this.symm
      have hvget : ∀ i j, i < rows.length → j < sz' → ((List.range (rows.length * sz')).map fun k => uu (k / sz') (k % sz'))[i * sz' + j]? = some (uu i j) := fun i j hi hj => by
        have hlt := idx_row hi hj
        have e1 : (i * sz' + j) / sz' = i := by
          rw [Nat.mul_comm, Nat.mul_add_div (by omega), Nat.div_eq_of_lt hj, Nat.add_zero]
        have e2 : (i * sz' + j) % sz' = j := by
          rw [Nat.mul_comm, Nat.mul_add_mod, Nat.mod_eq_of_lt hj]
        simp [hlt, e1, e2]
      refine ⟨some a, c, (List.range (rows.length * sz')).map fun k => uu (k / sz') (k % sz'), rfl, hc, by simp, ⟨by simp, hl, fun v hv => ?_, fun i r j x v hi hj hv => ?_⟩, fun j x hx => ?_⟩
      · obtain ⟨k, hk, rfl⟩ := List.mem_map.1 hv
        obtain ⟨i, j, hi, hj, rfl⟩ := hget k (by simpa using hk)
        have h1 : j < (rows[i]).length := by have := hl i _ (List.getElem?_eq_getElem hi); omega
        have h2 := hvget i j hi hj
        simp only [List.getElem?_map] at h2
        rw [List.getElem?_eq_getElem (by simpa using hk)] at h2
        simp only [Option.map_some, Option.some.injEq, List.getElem_range] at h2
        rw [h2]
        exact (hr i _ (List.getElem?_eq_getElem hi) j _ (List.getElem?_eq_getElem h1)).oneCell
      · have hi' := (List.getElem?_eq_some_iff.1 hi).1
        have hj' : j < sz' := by have := (List.getElem?_eq_some_iff.1 hj).1; have := hl i r hi; omega
        rw [hvget i j hi' hj'] at hv
        cases hv
        exact hr i r hi j x hj
      · have hjl := (List.getElem?_eq_some_iff.1 hx).1
        obtain ⟨i, j', hi, hj, rfl⟩ := hget j (by simpa using hjl)
        rw [hvget i j' hi hj] at hx
        cases hx
        exact ⟨a, rfl, hm i j' hi hj⟩
  · rename_i id sz' off len cap
    split at h <;> try exact h.elim
    rename_i sz2 rows hid
    split at h <;> try exact h.elim
    rename_i hb
    simp only [Bool.and_eq_true] at hb
    have e1 := beq_t hb.1
    have e2 := beq_t hb.2
    subst e1
    subst e2
    obtain ⟨hle, h⟩ := h
    refine ⟨_, ?_, h⟩
    cases hv with
    | slc0 _ _ _ A => exact ⟨A, 0, [], by simp, by simp, by simp, .nil (by simp), fun j x h => by simp at h⟩
    | slc _ _ _ _ _ b hm hc hs =>
      obtain ⟨arr, t, hbk, hrow⟩ := (hS.rb (.g id) _ b (sfind_mem hid) hm).row_of
      obtain ⟨q1, q2, q3⟩ := hrow.seg hle
      refine ⟨_, cap, _, by rw [q3], by rw [q3]; exact hc, by rw [q2, q3], q1, fun j x hx => ⟨_, rfl, ?_⟩⟩
      rw [add_plain]
      have hj := (List.getElem?_eq_some_iff.1 hx).1
      rw [List.getElem?_take, if_pos (by rw [q2] at hj; exact hj), List.getElem?_drop] at hx
      simp only [World.cell?, hbk]
      simpa using hx
theorem srcK_one {sz : Nat} {y : AV} {K : List (List DV) → Prop} (h : srcK s sz y K) : ∃ rows, srcK s sz y (fun q => q = rows) ∧ K rows := by
  unfold srcK at *
  split at h <;> try exact h.elim
  · exact ⟨[], rfl, h⟩
  · exact ⟨[], rfl, h⟩
  · split at h <;> try exact h.elim
    exact ⟨_, rfl, h⟩
  · split at h <;> try exact h.elim
    rename_i hid
    split at h <;> try exact h.elim
    rename_i hb
    exact ⟨_, ⟨h.1, rfl⟩, h.2⟩

/-- The first m that a slice yields, and how many there are. -/
def srcN (s : List (Nat × AB)) (sz m : Nat) (y : AV) (K : Nat → List (List DV) → Prop) : Prop := match y with
  | .d .nil => K 0 []
  | .d .emp => K 0 []
  | .d (.list sz' rows) => match Nat.beq sz' sz with
    | true => K rows.length (rows.take m)
    | false => False
  | .slc (.g id) sz' off len _ => match sfind s id with
    | some (.row sz2 rows) => match Nat.beq sz' sz && Nat.beq sz2 sz with
      | true => off + min len m ≤ rows.length ∧ K len ((rows.drop off).take (min len m))
      | false => False
    | _ => False
  | _ => False
theorem srcN_get (hS : St M F U L s w) {sz m : Nat} {y : AV} {u : Value} {K : Nat → List (List DV) → Prop} (hv : RV M F w y u) (h : srcN s sz m y K) :
    ∃ l2 rows A c vals, K l2 rows ∧ u = .slice A l2 c ∧ rows.length = min l2 m ∧ vals.length = rows.length * sz ∧ RowV F w sz rows vals ∧ ∀ (j : Nat) (x : Value), vals[j]? = some x → ∃ a, A = some a ∧ w.cell? (a.add j) = some x := by
  unfold srcN at h
  split at h <;> try exact h.elim
  · exact ⟨0, [], none, 0, [], h, hv.nil_inv, by simp, by simp, .nil (by simp), fun j x h => by simp at h⟩
  · cases hv with | d hv => cases hv with
    | emp A => exact ⟨0, [], A, 0, [], h, rfl, by simp, by simp, .nil (by simp), fun j x h => by simp at h⟩
  · rename_i sz' rows
    split at h <;> try exact h.elim
    rename_i hb
    have hsk : srcK s sz (.d (.list sz' rows)) (fun q => q = rows) := by simp only [srcK, hb]
    obtain ⟨rows', ⟨A, c, vals, hu, hc, hvl, hrow, hcell⟩, he⟩ := srcK_yields (sz := sz) hS hv hsk
    subst he
    obtain ⟨g1, g2, g3⟩ := hrow.seg (off := 0) (n := min rows'.length m) (by omega)
    simp only [List.drop_zero, Nat.zero_mul] at g1 g2 g3
    have htk : rows'.take (min rows'.length m) = rows'.take m := by
      rw [List.take_eq_take_iff]; omega
    rw [htk] at g1 g3
    refine ⟨rows'.length, rows'.take m, A, c, vals.take (min rows'.length m * sz), h, hu, g3, by rw [g2, g3], g1, fun j x hx => ?_⟩
    rw [List.getElem?_take] at hx
    split at hx <;> try cases hx
    exact hcell j x hx
  · rename_i id sz' off len cap
    split at h <;> try exact h.elim
    rename_i sz2 rows hid
    split at h <;> try exact h.elim
    rename_i hb
    simp only [Bool.and_eq_true] at hb
    have e1 := beq_t hb.1
    have e2 := beq_t hb.2
    subst e1
    subst e2
    obtain ⟨hle, h⟩ := h
    cases hv with
    | slc0 _ _ _ A => exact ⟨0, _, A, 0, [], h, rfl, by simp, by simp, by simpa using RowV.nil (by simp), fun j x h => by simp at h⟩
    | slc _ _ _ _ _ b hm hc hs =>
      obtain ⟨arr, t, hbk, hrow⟩ := (hS.rb (.g id) _ b (sfind_mem hid) hm).row_of
      obtain ⟨q1, q2, q3⟩ := hrow.seg hle
      refine ⟨_, _, _, cap, _, h, rfl, q3, by rw [q2, q3], q1, fun j x hx => ⟨_, rfl, ?_⟩⟩
      rw [add_plain]
      have hj := (List.getElem?_eq_some_iff.1 hx).1
      rw [List.getElem?_take, if_pos (by rw [q2] at hj; exact hj), List.getElem?_drop] at hx
      simp only [World.cell?, hbk]
      simpa using hx
theorem srcN_one {sz m : Nat} {y : AV} {K : Nat → List (List DV) → Prop} (h : srcN s sz m y K) : ∃ l2 rows, srcN s sz m y (fun a b => a = l2 ∧ b = rows) ∧ K l2 rows := by
  unfold srcN at *
  split at h <;> try exact h.elim
  · exact ⟨0, [], ⟨rfl, rfl⟩, h⟩
  · exact ⟨0, [], ⟨rfl, rfl⟩, h⟩
  · split at h <;> try exact h.elim
    exact ⟨_, _, ⟨rfl, rfl⟩, h⟩
  · split at h <;> try exact h.elim
    rename_i hid
    split at h <;> try exact h.elim
    rename_i hb
    exact ⟨_, _, ⟨h.1, rfl, rfl⟩, h.2⟩
theorem Yields.rd {sz : Nat} {u : Value} {rows : List (List DV)} (h : Yields F w sz u rows) (hsz : 0 < sz) (hF : ∀ b, F b → b < w.heap.size) : RD (fun b => b < w.heap.size) w (.list sz rows) u := by
  obtain ⟨A, c, vals, rfl, hc, hl, hr, hcell⟩ := h
  by_cases hz : rows = []
  · subst hz; exact .empty _ _ _
  · have hpos : 0 < rows.length := List.length_pos_iff.2 hz
    have hvp : 0 < vals.length := by rw [hl]; exact Nat.mul_pos hpos hsz
    obtain ⟨a, rfl, h0⟩ := hcell 0 _ (List.getElem?_eq_getElem hvp)
    have hab : a.block < w.heap.size := by
      unfold World.cell? at h0
      rcases Nat.lt_or_ge (a.add 0).block w.heap.size with q | q
      · rwa [block_of_add] at q
      · rw [Array.getElem?_eq_none q] at h0; cases h0
    have hget : ∀ i j, i < rows.length → j < sz → ∃ v, vals[i * sz + j]? = some v := fun i j hi hj => ⟨_, List.getElem?_eq_getElem (by rw [hl]; exact idx_row hi hj)⟩
    refine .list sz rows a c (fun i j => (vals[i * sz + j]?).getD Go.undef) hc hab hr.len (fun i j hi hj => ?_) (fun i r hi j x hx => ?_)
    · obtain ⟨v, hv⟩ := hget i j hi hj
      obtain ⟨a', e, q⟩ := hcell _ v hv
      cases e
      simp [hv, q]
    · have hj : j < sz := by have := (List.getElem?_eq_some_iff.1 hx).1; have := hr.len i r hi; omega
      obtain ⟨v, hv⟩ := hget i j (List.getElem?_eq_some_iff.1 hi).1 hj
      simp only [hv, Option.getD_some]
      exact (hr.rd i r j x v hi hx hv).mono hF (fun _ _ => rfl)

/-! ### An object as data -/
mutual
def AV.fz (id : Nat) (ab : AB) : AV → AV
  | .d x => .d x
  | .agg cs => .agg (fzL id ab cs)
  | .tup cs => .tup (fzL id ab cs)
  | .fn f cs => .fn f (fzL id ab cs)
  | .ifc t x => .ifc t (x.fz id ab)
  | .ref r off => match r with
    | .l k => .ref (.l k) off
    | .g i => match Nat.beq i id with
      | true => match ab with
        | .cells cs => match undD cs with
          | some ds => .d (.ptr ds off)
          | none => .undef
        | _ => .undef
      | false => .ref (.g i) off
  | .slc r sz off len cap => match r with
    | .l k => .slc (.l k) sz off len cap
    | .g i => match Nat.beq i id with
      | true => match ab with
        | .row sz' rows => match Nat.beq sz' sz with
          | true => .d (.list sz ((rows.drop off).take len))
          | false => .undef
        | _ => .undef
      | false => .slc (.g i) sz off len cap
  | .el r sz i j => match r with
    | .l k => .el (.l k) sz i j
    | .g k => match Nat.beq k id with
      | true => .undef
      | false => .el (.g k) sz i j
  | .mp r => match r with
    | .l k => .mp (.l k)
    | .g i => match Nat.beq i id with
      | true => .undef
      | false => .mp (.g i)
  | .undef => .undef
def fzL (id : Nat) (ab : AB) : List AV → List AV
  | [] => []
  | x :: r => x.fz id ab :: fzL id ab r
end
mutual
/-- What is to be shown: a slice of it lies in what it holds. -/
def AV.fzOK (id : Nat) (ab : AB) : AV → Prop
  | .agg cs => fzLOK id ab cs
  | .tup cs => fzLOK id ab cs
  | .fn _ cs => fzLOK id ab cs
  | .ifc _ x => x.fzOK id ab
  | .slc r sz off len _ => match r with
    | .l _ => True
    | .g i => match Nat.beq i id with
      | true => match ab with
        | .row _ rows => 0 < sz ∧ off + len ≤ rows.length
        | _ => True
      | false => True
  | _ => True
def fzLOK (id : Nat) (ab : AB) : List AV → Prop
  | [] => True
  | x :: r => x.fzOK id ab ∧ fzLOK id ab r
end
theorem fzL_len (id : Nat) (ab : AB) : ∀ (cs : List AV), (fzL id ab cs).length = cs.length
  | [] => rfl
  | x :: r => by simp [fzL, fzL_len id ab r]
theorem fzL_get {id : Nat} {ab : AB} : ∀ {cs : List AV} {j : Nat} {y : AV}, (fzL id ab cs)[j]? = some y → ∃ x, cs[j]? = some x ∧ y = x.fz id ab
  | [], j, y, h => by simp [fzL] at h
  | x :: r, 0, y, h => by simp only [fzL, List.getElem?_cons_zero, Option.some.injEq] at h; exact ⟨x, rfl, h.symm⟩
  | x :: r, j + 1, y, h => by
    simp only [fzL, List.getElem?_cons_succ] at h
    obtain ⟨x', h1, h2⟩ := fzL_get h
    exact ⟨x', by simpa using h1, h2⟩
theorem fzLOK_get {id : Nat} {ab : AB} : ∀ {cs : List AV} {j : Nat} {x : AV}, fzLOK id ab cs → cs[j]? = some x → x.fzOK id ab
  | [], j, x, _, h => by simp at h
  | y :: r, 0, x, h, hx => by
    simp only [fzLOK] at h
    simp at hx; subst hx; exact h.1
  | y :: r, j + 1, x, h, hx => by
    simp only [fzLOK] at h
    exact fzLOK_get h.2 (by simpa using hx)

theorem Yields.rdN {N : Nat → Prop} {sz : Nat} {u : Value} {rows : List (List DV)} (h : Yields F w sz u rows) (hsz : 0 < sz) (hF : ∀ b, F b → N b) (hN : ∀ ad m c, u = .slice (some ad) m c → rows ≠ [] → N ad.block) : RD N w (.list sz rows) u := by
  obtain ⟨A, c, vals, rfl, hc, hl, hr, hcell⟩ := h
  by_cases hz : rows = []
  · subst hz; exact .empty _ _ _
  · have hpos : 0 < rows.length := List.length_pos_iff.2 hz
    have hvp : 0 < vals.length := by rw [hl]; exact Nat.mul_pos hpos hsz
    obtain ⟨ad, rfl, h0⟩ := hcell 0 _ (List.getElem?_eq_getElem hvp)
    have hget : ∀ i j, i < rows.length → j < sz → ∃ v, vals[i * sz + j]? = some v := fun i j hi hj => ⟨_, List.getElem?_eq_getElem (by rw [hl]; exact idx_row hi hj)⟩
    refine .list sz rows ad c (fun i j => (vals[i * sz + j]?).getD Go.undef) hc (hN _ _ _ rfl hz) hr.len (fun i j hi hj => ?_) (fun i r hi j x hx => ?_)
    · obtain ⟨v, hv⟩ := hget i j hi hj
      obtain ⟨a', e, q⟩ := hcell _ v hv
      cases e
      simp [hv, q]
    · have hj : j < sz := by have := (List.getElem?_eq_some_iff.1 hx).1; have := hr.len i r hi; omega
      obtain ⟨v, hv⟩ := hget i j (List.getElem?_eq_some_iff.1 hi).1 hj
      simp only [hv, Option.getD_some]
      exact (hr.rd i r j x v hi hx hv).mono hF (fun _ _ => rfl)

/-- Of a value: where it names the object it is data. -/
theorem RV.fz (hS : St M F U L s w) {M0 : Mp} {id b : Nat} {ab : AB} (hid : sfind s id = some ab) (hb : M.g id = some b) (h0 : M0.g id = some b) (hle : M0.Le M) {F1 : Nat → Prop} (hF1 : ∀ c, F c → F1 c) {x : AV} {v : Value} (h : RV M0 F1 w x v) : x.fzOK id ab → RV M0 (fun c => F1 c ∨ c = b) w (x.fz id ab) v := by
  induction h with
  | d h => exact fun _ => .d (h.mono (fun _ h => .inl h) (fun _ _ => rfl))
  | agg cs vs hl h1 h ih =>
    intro hok
    simp only [AV.fzOK] at hok
    simp only [AV.fz]
    refine .agg _ vs (by rw [fzL_len]; exact hl) h1 fun j y u hy hu => ?_
    obtain ⟨x, hx, rfl⟩ := fzL_get hy
    exact ih j x u hx hu (fzLOK_get hok hx)
  | tup cs vs hl h ih =>
    intro hok
    simp only [AV.fzOK] at hok
    simp only [AV.fz]
    refine .tup _ vs (by rw [fzL_len]; exact hl) fun j y u hy hu => ?_
    obtain ⟨x, hx, rfl⟩ := fzL_get hy
    exact ih j x u hx hu (fzLOK_get hok hx)
  | fn f cs vs hl h ih =>
    intro hok
    simp only [AV.fzOK] at hok
    simp only [AV.fz]
    refine .fn f _ vs (by rw [fzL_len]; exact hl) fun j y u hy hu => ?_
    obtain ⟨x, hx, rfl⟩ := fzL_get hy
    exact ih j x u hx hu (fzLOK_get hok hx)
  | ifc t x v h ih => exact fun hok => .ifc t _ v (ih (by simpa only [AV.fzOK] using hok))
  | undef v => exact fun _ => .undef v
  | mp r b' hm =>
    intro _
    cases r with
    | l k => exact .mp _ b' hm
    | g i =>
      simp only [AV.fz]
      split
      · exact .undef _
      · exact .mp _ b' hm
  | el r sz i j b' hm =>
    intro _
    cases r with
    | l k => exact .el _ sz i j b' hm
    | g k =>
      simp only [AV.fz]
      split
      · exact .undef _
      · exact .el _ sz i j b' hm
  | ref r off b' hm =>
    intro _
    cases r with
    | l k => exact .ref _ off b' hm
    | g i =>
      simp only [AV.fz]
      split
      · rename_i hi
        have := beq_t hi
        subst this
        have : b' = b := by simp only [Mp.at_] at hm; rw [h0] at hm; exact (Option.some.inj hm).symm
        subst this
        split
        · rename_i cs
          split
          · rename_i ds hds
            obtain ⟨arr, t, hbk, hsz, hc⟩ := hS.rb (.g i) _ b' (sfind_mem hid) hb
            have hcs := undD_map hds
            subst hcs
            have hal : arr.size = ds.length := by simpa using hsz
            have := RD.ptr (N := fun c => F1 c ∨ c = b') (w := w) ds off ⟨b', 0, none⟩ (fun j => (arr[j]?).getD Go.undef) (.inr rfl) (fun j hj => by
              rw [add_plain]
              simp only [World.cell?, hbk, Nat.zero_add]
              simp [Array.getElem?_eq_getElem (show j < arr.size by omega)]) (fun j x hx => by
              have hj := (List.getElem?_eq_some_iff.1 hx).1
              have hu : arr[j]? = some arr[j] := Array.getElem?_eq_getElem (by omega)
              have h2 := (hc j (.d x) arr[j] (by rw [List.getElem?_map, hx]; rfl) hu).2
              rw [hu, Option.getD_some]
              cases h2 with | d h2 => exact h2.mono (fun _ h => .inl (hF1 _ h)) (fun _ _ => rfl))
            rw [add_plain, Nat.zero_add] at this
            exact .d this
          · exact .undef _
        · exact .undef _
      · exact .ref _ off b' hm
  | slc r sz off len cap b' hm hc hs =>
    intro hok
    cases r with
    | l k => exact .slc _ sz off len cap b' hm hc hs
    | g i =>
      simp only [AV.fz]
      simp only [AV.fzOK] at hok
      split
      · rename_i hi
        rw [hi] at hok
        have := beq_t hi
        subst this
        split
        · rename_i sz' rows
          simp only at hok
          split
          · rename_i hsz
            have hbb : (Nat.beq sz sz && Nat.beq sz' sz) = true := by simp [hsz]
            have hsk : srcK s sz (.slc (.g i) sz off len cap) (fun q => q = (rows.drop off).take len) := by
              simp only [srcK, hid, hbb]
              exact ⟨hok.2, trivial⟩
            obtain ⟨rows', hyl, he⟩ := srcK_yields (sz := sz) hS (RV.slc (M := M) (F := F) (w := w) (.g i) sz off len cap b' (hle _ _ hm) hc hs) hsk
            subst he
            have : b' = b := by simp only [Mp.at_] at hm; rw [h0] at hm; exact (Option.some.inj hm).symm
            subst this
            exact .d (hyl.rdN hok.1 (fun _ h => .inl (hF1 _ h)) (fun ad m c e _ => by cases e; exact .inr rfl))
          · exact .undef _
        · exact .undef _
      · exact .slc _ sz off len cap b' hm hc hs
  | slc0 r sz off A =>
    intro hok
    cases r with
    | l k => exact .slc0 _ sz off A
    | g i =>
      simp only [AV.fz]
      split
      · split
        · split
          · simp only [List.take_zero]
            exact .d (.empty _ _ _)
          · exact .undef _
        · exact .undef _
      · exact .slc0 _ sz off A

/-- Arguments, of which slices of our own are lent. -/
inductive Lend (s : List (Nat × AB)) : List AV → List AV → Prop
  | nil : Lend s [] []
  | s (x : AV) {r r' : List AV} (h : Lend s r r') : Lend s (x :: r) (x :: r')
  | n (sz : Nat) {r r' : List AV} (h : Lend s r r') : Lend s (.d .nil :: r) (.d (.list sz []) :: r')
  | e (sz : Nat) {r r' : List AV} (h : Lend s r r') : Lend s (.d .emp :: r) (.d (.list sz []) :: r')
  | fz (id : Nat) (ab : AB) {l l' : List AV} (hm : sfind s id = some ab) (hd : ab ≠ .dead) (hok : fzLOK id ab l) (h : Lend s (fzL id ab l) l') : Lend s l l'
  | own (id sz off len cap : Nat) (rows seg : List (List DV)) {r r' : List AV} (hm : sfind s id = some (.row sz rows)) (hle : off + len ≤ rows.length) (hsz : 0 < sz) (hseg : seg = (rows.drop off).take len) (h : Lend s r r') : Lend s (.slc (.g id) sz off len cap :: r) (.d (.list sz seg) :: r')
theorem Lend.refl {s : List (Nat × AB)} : ∀ (l : List AV), Lend s l l
  | [] => .nil
  | x :: r => .s x (Lend.refl r)
theorem Lend.len {l l' : List AV} (h : Lend s l l') : l.length = l'.length := by
  induction h with
  | fz id ab hm hd hok h ih => rw [fzL_len] at ih; exact ih
  | _ => simp_all
theorem Lend.rv (hS : St M F U L s w) {l l' : List AV} {vals : List Value} (h : Lend s l l') (hv : ∀ (j : Nat) (x : AV) (v : Value), l[j]? = some x → vals[j]? = some v → RV M (fun b => b < w.heap.size) w x v) :
    ∀ (j : Nat) (x : AV) (v : Value), l'[j]? = some x → vals[j]? = some v → RV M (fun b => b < w.heap.size) w x v := by
  have hF : ∀ b, F b → b < w.heap.size := fun b hb => hS.Ult b (hS.FU b hb)
  induction h generalizing vals with
  | nil => intro j x v h; simp at h
  | s x h ih =>
    intro j y v hy hv'
    cases j with
    | zero =>
      simp at hy; subst hy
      exact hv 0 _ v (by simp) hv'
    | succ j =>
      cases vals with
      | nil => simp at hv'
      | cons u us => exact ih (fun j' x' v' hx' hvv => hv (j' + 1) x' v' (by simpa using hx') (by simpa using hvv)) j y v (by simpa using hy) (by simpa using hv')
  | n sz h ih =>
    intro j y v hy hv'
    cases j with
    | zero =>
      simp at hy; subst hy
      rw [(hv 0 _ v (by simp) hv').nil_inv]
      exact .d (.empty _ _ _)
    | succ j =>
      cases vals with
      | nil => simp at hv'
      | cons u us => exact ih (fun j' x' v' hx' hvv => hv (j' + 1) x' v' (by simpa using hx') (by simpa using hvv)) j y v (by simpa using hy) (by simpa using hv')
  | e sz h ih =>
    intro j y v hy hv'
    cases j with
    | zero =>
      simp at hy; subst hy
      have := hv 0 (.d .emp) v rfl hv'
      cases this with | d this => cases this with | emp A => exact .d (.empty _ _ _)
    | succ j =>
      cases vals with
      | nil => simp at hv'
      | cons u us => exact ih (fun j' x' v' hx' hvv => hv (j' + 1) x' v' (by simpa using hx') (by simpa using hvv)) j y v (by simpa using hy) (by simpa using hv')
  | fz id ab hm hd hok h ih =>
    intro j y v hy hv'
    obtain ⟨b, hb⟩ := hS.tot id ab (sfind_mem hm)
    have hbl : b < w.heap.size := hS.lt (r := .g id) (sfind_mem hm) hd hb
    refine ih (fun j' x' v' hx' hvv => ?_) j y v hy hv'
    obtain ⟨x, hx, rfl⟩ := fzL_get hx'
    refine (RV.fz hS hm hb hb (.refl M) hF (hv j' x v' hx hvv) (fzLOK_get hok hx)).mono (U := fun b => b < w.heap.size) (.refl _) (fun c hc => ?_) (fun c hc => ?_) ⟨rfl, rfl, rfl, Nat.le_refl _, fun _ _ => rfl, fun _ _ => rfl⟩
    · rcases hc with h | rfl
      · exact h
      · exact hbl
    · rcases hc with h | rfl
      · exact h
      · exact hbl
  | own id sz off len cap rows seg hm hle hsz hseg h ih =>
    intro j y v hy hv'
    cases j with
    | zero =>
      simp at hy; subst hy
      subst hseg
      have h1 : RV M F w (.slc (.g id) sz off len cap) v := by
        have h1 := hv 0 (.slc (.g id) sz off len cap) v rfl hv'
        cases h1 with
        | slc _ _ _ _ _ b hm hc hs => exact .slc _ _ _ _ _ b hm hc hs
        | slc0 _ _ _ A => exact .slc0 _ _ _ A
      have hb : (Nat.beq sz sz && Nat.beq sz sz) = true := by simp
      have hsk : srcK s sz (.slc (.g id) sz off len cap) (fun q => q = (rows.drop off).take len) := by
        simp only [srcK, hm, hb]
        exact ⟨hle, trivial⟩
      obtain ⟨rows', hyl, he⟩ := srcK_yields (sz := sz) hS h1 hsk
      subst he
      exact .d (hyl.rd hsz hF)
    | succ j =>
      cases vals with
      | nil => simp at hv'
      | cons u us => exact ih (fun j' x' v' hx' hvv => hv (j' + 1) x' v' (by simpa using hx') (by simpa using hvv)) j y v (by simpa using hy) (by simpa using hv')

mutual
def AV.scal : AV → Bool
  | .d (.int _ _) => true
  | .d (.bool _) => true
  | .d (.str _) => true
  | .d (.raw _) => true
  | .d .nil => true
  | .agg cs => scalL cs
  | .tup cs => scalL cs
  | .undef => true
  | _ => false
def scalL : List AV → Bool
  | [] => true
  | x :: r => x.scal && scalL r
end
theorem scalL_at : ∀ {cs : List AV} {j : Nat} {x : AV}, scalL cs = true → cs[j]? = some x → x.scal = true
  | [], j, x, _, hx => by simp at hx
  | c :: r, 0, x, h, hx => by
    simp only [scalL, Bool.and_eq_true] at h
    simp at hx
    subst hx
    exact h.1
  | c :: r, j + 1, x, h, hx => by
    simp only [scalL, Bool.and_eq_true] at h
    exact scalL_at h.2 (by simpa using hx)
theorem RV.scal {M M' : Mp} {F F' : Nat → Prop} {w w' : World} {x : AV} {v : Value} (h : RV M F w x v) : x.scal = true → RV M' F' w' x v := by
  induction h with
  | d h =>
    intro hc
    cases h <;> first | (cases hc; done) | skip
    · exact .d (.int _ _)
    · exact .d (.bool _)
    · exact .d (.str _)
    · exact .d (.raw _ ‹_›)
    · exact .d .nil
  | agg cs vs hl h1 h ih => exact fun hc => .agg cs vs hl h1 fun j x v hx hv => ih j x v hx hv (scalL_at (by simpa [AV.scal] using hc) hx)
  | tup cs vs hl h ih => exact fun hc => .tup cs vs hl fun j x v hx hv => ih j x v hx hv (scalL_at (by simpa [AV.scal] using hc) hx)
  | undef v => exact fun _ => .undef v
  | _ => intro hc; cases hc

theorem nrL_at {l : List AV} (h : nrL l = true) {j : Nat} {x : AV} (hx : l[j]? = some x) : ∃ y, x.rn (fun _ => none) = some y := by
  unfold nrL at h
  split at h <;> try cases h
  rename_i l' hl'
  obtain ⟨k1, k2⟩ := rnL_get hl'
  have hj := (List.getElem?_eq_some_iff.1 hx).1
  obtain ⟨y, hy, hy'⟩ := k2 j l'[j] (List.getElem?_eq_getElem (by omega))
  rw [hx] at hy
  cases hy
  exact ⟨_, hy'⟩
/-- A call that only reads, of what we lend it; its answer holds no memory. -/
theorem pj_call_lend {c : Operand} {args : Array Operand} {tys : Array TypeId} {f : Nat} {caps : List AV} {v : AV}
    (ho : o.op = .call { callee := .value c, args := args, argTypes := tys }) (hc : rh c = .fn f caps)
    {args' : List AV} (hw : Lend s (args.toList.map rh ++ caps) args') (hcl : nrL args' = true) (hvs : v.scal = true) (hC : Contract P G f args' [] (fun r t => r = v ∧ t = [])) : PJ P G o rh L s v [] := by
  intro M F U w a hS hG hx
  obtain ⟨vals, hrun, hl, hv⟩ := run_call ho hc hC.1 hx
  have hF : ∀ b, F b → b < w.heap.size := fun b hb => hS.Ult b (hS.FU b hb)
  have hX0 : Ext (fun b => b < w.heap.size) w w := ⟨rfl, rfl, rfl, Nat.le_refl _, fun _ _ => rfl, fun _ _ => rfl⟩
  have hargs : ∀ (j : Nat) (x : AV) (u : Value), args'[j]? = some x → vals[j]? = some u → RV ⟨fun _ => none, fun _ => none⟩ (fun b => b < w.heap.size) w x u := fun j x u hx hu => by
    obtain ⟨y, hy⟩ := nrL_at hcl hx
    exact nr_rv (hw.rv hS (fun j x v hx hvv => (hv j x v hx hvv).mono (.refl _) hF hF hX0) j x u hx hu) hy
  have hS0 : St ⟨fun _ => none, fun _ => none⟩ (fun b => b < w.heap.size) (fun b => b < w.heap.size) [] [] w :=
    ⟨fun r ab b hr hm => by cases r <;> simp [Here] at hr, fun r r' a1 a2 b hr => by cases r <;> simp [Here] at hr, fun r ab b hr => by cases r <;> simp [Here] at hr, .nil, fun b h => h, fun b h => h, fun _ _ => rfl, fun id ab h => (by simp at h), fun _ _ => rfl⟩
  have hcall := hC.2 (fun _ => none) (fun b => b < w.heap.size) (fun b => b < w.heap.size) w vals hS0 (hG.mono hF hF hX0) (by rw [hl, hw.len]) hargs
  unfold Oper.wp
  rw [hrun]
  simp only [Oper.upon]
  refine hcall.mono ?_
  rintro e w' ⟨val, res, s1, g', F', U', rfl, ⟨rfl, rfl⟩, _, _, _, _, _, hX, _, hrv⟩
  have hXU : Ext U w w' := hX.mono hS.Ult
  refine ⟨val, M, F, U, rfl, .refl M, fun _ _ => rfl, fun k b hk hb => ?_, fun _ h => h, fun _ h => h, fun _ h => .inl h, fun _ h => .inl h, hX, ?_, hrv.scal hvs⟩
  · rw [hS.dom k hk] at hb; cases hb
  · rw [List.append_nil]
    refine ⟨fun r ab b hr hm => (hS.rb r ab b hr hm).mono (.refl _) (fun _ h => h) hF hX (fun hd => hX.block b (hS.lt hr hd hm)), hS.inj, hS.nU, hS.nd, hS.FU, fun b hb => Nat.lt_of_lt_of_le (hS.Ult b hb) hX.size, hS.dom, hS.tot, hS.gdom⟩
end
end Go.Pv
