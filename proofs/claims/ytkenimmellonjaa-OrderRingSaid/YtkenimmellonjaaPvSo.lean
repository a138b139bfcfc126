/- Functions that turn a row in place: from what the kit's shelf tells. -/
import Derived.Test.YtkenimmellonjaaPvS
import Derived.Test.YtkenimmellonjaaPvW
import Derived.Shelf.Sort.Plain
import Derived.Shelf.Slices.In.SortNone
namespace Go.Pv
open Go.RowKit
variable {P : Program} {G : Gl} {M : Mp} {F U : Nat → Prop} {L : List AB} {s : List (Nat × AB)} {w : World}

/-- A world that has what was there. -/
theorem St.same {w' : World} (h : St M F U L s w) (hX : ∀ U, Ext U w w') (hh : ∀ b, b < w.heap.size → w'.heap[b]? = w.heap[b]?) : St M F U L s w' := by
  refine ⟨fun r ab b hr hm => ?_, h.inj, h.nU, h.nd, h.FU, fun b hb => Nat.lt_of_lt_of_le (h.Ult b hb) (hX U).size, h.dom, h.tot, h.gdom⟩
  have h0 := h.rb r ab b hr hm
  refine h0.mono (.refl _) (fun _ h => h) (fun b hb => h.FU b hb) (hX U) (fun hd => hh b ?_)
  exact RB.lt h0 hd
theorem grow_old (w : World) (os : Array Obj) {b : Nat} (hb : b < w.heap.size) : (Sort.grow w os).heap[b]? = w.heap[b]? := by
  simp only [Sort.grow]
  rw [Array.getElem?_append_left hb]
theorem grow_ext (w : World) (os : Array Obj) (hU : ∀ b, U b → b < w.heap.size) : Ext U w (Sort.grow w os) := by
  refine ⟨rfl, rfl, rfl, by simp [Sort.grow], fun b hb => grow_old w os (hU b hb), fun b hb => ?_⟩
  unfold World.shape?
  rw [grow_old w os hb]
theorem ahead_ext (w : World) (n : Nat) (U : Nat → Prop) : Ext U w (Sort.ahead w n) := ⟨rfl, rfl, rfl, Nat.le_refl _, fun _ _ => rfl, fun _ _ => rfl⟩
theorem St.grow (h : St M F U L s w) (os : Array Obj) : St M F U L s (Sort.grow w os) := by
  refine ⟨fun r ab b hr hm => ?_, h.inj, h.nU, h.nd, h.FU, fun b hb => Nat.lt_of_lt_of_le (h.Ult b hb) (by simp [Sort.grow]), h.dom, h.tot, h.gdom⟩
  have h0 := h.rb r ab b hr hm
  exact h0.mono (.refl _) (fun _ h => h) (fun b hb => h.FU b hb) (grow_ext w os h.Ult) (fun hd => grow_old w os (RB.lt h0 hd))
theorem St.ahead (h : St M F U L s w) (n : Nat) : St M F U L s (Sort.ahead w n) := h.same (fun U => ahead_ext w n U) (fun _ _ => rfl)

theorem putRow_eq {α : Type} [Inhabited α] (enc : α → Value) {w : World} {b : Nat} {arr : Array Value} {t : TypeId} {fr : Nat × Nat} (hb : w.heap[b]? = some (.cells arr t fr)) (d : Array α) (hd : d.size ≤ arr.size) :
    Sort.putRow enc w b 0 d = w.setRow b (setN arr.toList 0 (d.toList.map enc)).toArray := by
  have hc : Sort.putCells enc 0 d arr = (setN arr.toList 0 (d.toList.map enc)).toArray := by
    apply Array.ext'
    rw [List.toList_toArray]
    apply List.ext_getElem?
    intro j
    rw [setN_get (by simpa using hd)]
    simp only [Sort.putCells, Array.toList_mapIdx, List.getElem?_mapIdx, List.length_map, Array.length_toList, Nat.zero_le, true_and, Nat.zero_add, Nat.sub_zero]
    by_cases hj : j < d.size
    · rw [if_pos hj, List.getElem?_map]
      rw [List.getElem?_eq_getElem (show j < arr.toList.length by simp; omega), List.getElem?_eq_getElem (show j < d.toList.length by simpa using hj)]
      simp [hj]
    · rw [if_neg hj]
      cases arr.toList[j]? with
      | none => rfl
      | some v => simp [hj]
  unfold Sort.putRow Sort.mapBlock World.setRow
  congr 1
  apply Array.ext_getElem?
  intro j
  rw [Array.getElem?_modify, Array.getElem?_modify]
  by_cases hj : b = j
  · subst hj
    rw [if_pos rfl, if_pos rfl, hb]
    simp only [Option.map_some, Sort.onCells, hc]
  · rw [if_neg hj, if_neg hj]

/-- A call that lays a row anew. -/
theorem Contract.turn {f sz : Nat} (hcal : Callee P f) {rows rows' : List (List DV)} {cap : Nat} (hl : rows'.length = rows.length)
    (h0 : ∀ A w, Calls P f #[.slice A 0 0] w fun e w' => e = .returned (.tuple #[]) ∧ w' = w)
    (h1 : ∀ (F : Nat → Prop) (w : World) (b : Nat) (arr : Array Value) (tt : TypeId), w.heap[b]? = some (.cells arr tt (0, 0)) → RowV F w sz rows arr.toList →
      Calls P f #[.slice (some ⟨b, 0, none⟩) rows.length cap] w fun e w' => e = .returned (.tuple #[]) ∧ ∃ k os nv, nv.length = rows'.length * sz ∧ RowV F (Sort.ahead w k) sz rows' nv ∧ w' = Sort.grow ((Sort.ahead w k).setRow b (setN arr.toList 0 nv).toArray) os) :
    Contract P G f [.slc (.g 0) sz 0 rows.length cap] [(0, .row sz rows)] (fun r t => r = .tup [] ∧ t = [(0, .row sz rows')]) := by
  refine ⟨hcal, fun g F U w vals hS hG hlv hv => ?_⟩
  obtain ⟨v, rfl⟩ : ∃ v, vals = [v] := by
    match vals, hlv with
    | [v], _ => exact ⟨v, rfl⟩
  have hrv := hv 0 _ v rfl rfl
  have htup : ∀ (M : Mp) (F : Nat → Prop) (w : World), RV M F w (.tup []) (.tuple #[]) := fun M F w => .tup [] [] rfl (fun j x v hx => by simp at hx)
  have hspl : splice rows 0 rows' = rows' := by simp [splice, hl]
  generalize hn : rows.length = n at hrv h1
  cases hrv with
  | slc0 _ _ _ A =>
    have hr : rows = [] := List.eq_nil_of_length_eq_zero hn
    have hr' : rows' = [] := List.eq_nil_of_length_eq_zero (by rw [hl, hn])
    subst hr
    subst hr'
    refine (h0 A w).mono fun e w' he => ?_
    obtain ⟨rfl, rfl⟩ := he
    exact ⟨_, _, _, g, F, U, rfl, ⟨rfl, rfl⟩, fun _ _ h => h, fun id ab h => .inl ⟨ab, h⟩, fun _ h => h, fun _ h => h, fun _ h => .inl h, .refl _ _, hS, htup _ _ _⟩
  | slc _ _ _ _ _ b hm hc hs =>
    obtain ⟨arr, tt, hbk, hold⟩ := (hS.rb (.g 0) (.row sz rows) b (by simp [Here]) hm).row_of
    rw [Nat.zero_mul]
    refine (h1 F w b arr tt hbk hold).mono fun e w' he => ?_
    obtain ⟨rfl, k, os, nv, hnl, hrow, rfl⟩ := he
    have hSa := hS.ahead k
    have hle := hold.le
    have hE := eff_rows (p := 0) hSa (id := 0) (rows := rows) (by rfl) hm (Nat.zero_le _) hrow hnl (arr := arr) (tt := tt) hbk (by rw [Nat.zero_mul, Nat.zero_add, hnl, hl]; simpa using hle) (hold.mono (fun _ h => h) (fun _ _ => rfl))
    rw [hspl, Nat.zero_mul] at hE
    refine ⟨_, _, _, g, F, U, rfl, ⟨rfl, ?_⟩, fun _ _ h => h, fun id ab h => ?_, fun _ h => h, fun _ h => h, fun _ h => .inl h, ?_, hE.st.grow os, htup _ _ _⟩
    · rfl
    · exact hE.ids id ab h
    · exact ((ahead_ext w k U).trans hE.ext (fun _ h => h)).trans (grow_ext _ os hE.st.Ult) (fun _ h => h)
/-- slices.Sort at ints. -/
theorem Contract.sort_ints {f : Nat} (hcal : Callee P f) (g : List Int → List Int) (hl : ∀ zs, (g zs).length = zs.length)
    (hs : ∀ (blk off cap : Nat) (zs : List Int) (w : World), Sort.Holds (Value.int .i64) w blk off zs.toArray → blk < w.heap.size → zs.length < 4611686018427387904 →
      Calls P f #[.slice (some ⟨blk, off, none⟩) zs.length cap] w fun e w' => e = .returned (.tuple #[]) ∧ ∃ n os, w' = Sort.grow (Sort.putRow (Value.int .i64) (Sort.ahead w n) blk off (g zs).toArray) os)
    (h0 : ∀ (p : Option Addr) (cap : Nat) (w : World), Calls P f #[.slice p 0 cap] w fun e w' => e = .returned (.tuple #[]) ∧ w' = w) (zs : List Int) (hz : zs.length < 4611686018427387904) (cap : Nat) :
    Contract P G f [.slc (.g 0) 1 0 zs.length cap] [(0, .row 1 (zs.map fun z => [.int .i64 z]))] (fun r t => r = .tup [] ∧ t = [(0, .row 1 ((g zs).map fun z => [.int .i64 z]))]) := by
  have hlr : (zs.map fun z => [DV.int .i64 z]).length = zs.length := by simp
  have := Contract.turn (P := P) (G := G) (sz := 1) hcal (rows := zs.map fun z => [DV.int .i64 z]) (rows' := (g zs).map fun z => [DV.int .i64 z]) (cap := cap) (by simp [hl]) (fun A w => h0 A 0 w) ?_
  · rwa [hlr] at this
  intro F w b arr tt hbk hrow
  rw [hlr]
  have hle := hrow.le
  simp only [List.length_map, Nat.mul_one, Array.length_toList] at hle
  refine (hs b 0 cap zs w (fun j hj => ⟨?_, ?_⟩) ((Array.getElem?_eq_some_iff.1 hbk).1) hz).mono fun e w' he => ?_
  · have hj : j < zs.length := by simpa using hj
    simp only [World.cell?, hbk, Nat.zero_add, Option.isSome_none, Bool.false_eq_true, if_false]
    rw [Array.getElem?_eq_getElem (by omega)]
    have hr := hrow.rd j [.int .i64 zs[j]] 0 (.int .i64 zs[j]) arr[j] (by simp [hj]) rfl (by rw [Nat.mul_one, Nat.add_zero, Array.getElem?_toList, Array.getElem?_eq_getElem (by omega)])
    generalize arr[j] = u at hr
    cases hr with
    | int => simp [hj]
  · simp [World.frozen?, hbk]
  · obtain ⟨rfl, n, os, rfl⟩ := he
    refine ⟨rfl, n, os, (g zs).map (Value.int .i64), by simp, ⟨by simp, ?_, ?_, ?_⟩, ?_⟩
    · intro i r hr
      simp only [List.getElem?_map, Option.map_eq_some_iff] at hr
      obtain ⟨z, _, rfl⟩ := hr
      rfl
    · intro v hv
      obtain ⟨z, _, rfl⟩ := List.mem_map.1 hv
      rfl
    · intro i r j x v hr hx hv
      simp only [List.getElem?_map, Option.map_eq_some_iff] at hr
      obtain ⟨z, hz', rfl⟩ := hr
      cases j with
      | succ j => simp at hx
      | zero =>
        simp only [List.getElem?_cons_zero, Option.some.injEq] at hx
        subst hx
        simp only [Nat.mul_one, Nat.add_zero, List.getElem?_map, hz', Option.map_some, Option.some.injEq] at hv
        subst hv
        exact .int _ _
    · have hbk' : (Sort.ahead w n).heap[b]? = some (.cells arr tt (0, 0)) := hbk
      rw [putRow_eq (Value.int .i64) hbk' (g zs).toArray (by simp [hl]; exact hle)]
/-- .. at nothing. -/
theorem Contract.sort_none {f sz : Nat} (hcal : Callee P f) (h0 : ∀ (p : Option Addr) (cap : Nat) (w : World), Calls P f #[.slice p 0 cap] w fun e w' => e = .returned (.tuple #[]) ∧ w' = w) :
    Contract P G f [.d (.list sz [])] [] (fun r t => r = .tup [] ∧ t = []) := by
  refine ⟨hcal, fun g F U w vals hS hG hlv hv => ?_⟩
  obtain ⟨v, rfl⟩ : ∃ v, vals = [v] := by
    match vals, hlv with
    | [v], _ => exact ⟨v, rfl⟩
  have hrv := hv 0 _ v rfl rfl
  have : ∃ p cap, v = .slice p 0 cap := by
    cases hrv with
    | d h =>
      cases h with
      | empty => exact ⟨_, _, rfl⟩
      | list => exact ⟨_, _, rfl⟩
  obtain ⟨p, cap, rfl⟩ := this
  refine (h0 p cap w).mono fun e w' he => ?_
  obtain ⟨rfl, rfl⟩ := he
  exact ⟨_, _, _, g, F, U, rfl, ⟨rfl, rfl⟩, fun _ _ h => h, fun id ab h => .inl ⟨ab, h⟩, fun _ h => h, fun _ h => h, fun _ h => .inl h, .refl _ _, hS, .tup [] [] rfl (fun j x v hx => by simp at hx)⟩
end Go.Pv
