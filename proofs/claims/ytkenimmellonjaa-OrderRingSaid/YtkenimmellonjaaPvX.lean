/- A law's row: its arguments as data, its answer, what it leaves as it was. -/
import Derived.Test.YtkenimmellonjaaPvT
import Derived.ProofKit
import Derived.Deep.Slices
import Derived.Deep.Fields
namespace Go.Pv
open Go.RowKit Go.ChangeShapes Go.WideShapes Go.Deep

/-- Data of a type, cell by cell. -/
def Dat (T : Nat → Option TI) : Nat → Nat → List DV → Prop
  | 0, _, _ => False
  | n + 1, t, xs => match T t with
    | some ti => match ti.u with
      | .int k => ∃ m : Int, k.min ≤ m ∧ m ≤ k.max ∧ xs = [.int k m]
      | .bool => ∃ b, xs = [.bool b]
      | .string => ∃ s : ByteArray, s.size ≤ maxLen ∧ xs = [.str s]
      | .slice e => match T e with
        | some te => xs = [.nil] ∨ ∃ rows, rows.length ≤ maxLen ∧ (∀ r ∈ rows, Dat T n e r) ∧ xs = [.list te.size rows]
        | none => False
      | .struct fs => fs.toList.foldr (fun f (k : List DV → Prop) xs => ∃ a b, xs = a ++ b ∧ Dat T n f.type a ∧ k b) (fun xs => xs = []) xs
      | _ => False
    | none => False

/-- Types that are data. -/
def datT (T : Nat → Option TI) : Nat → Nat → Bool
  | 0, _ => false
  | n + 1, t => match T t with
    | some ti => match ti.u with
      | .int _ => true
      | .bool => true
      | .string => true
      | .slice e => match T e with
        | some te => (match te.size with
          | 0 => false
          | _ + 1 => true) && datT T n e
        | none => false
      | .struct fs => (fs.toList.foldr (fun f (k : Nat → Bool) off => Nat.beq f.offset off && (match T f.type with
          | some tf => datT T n f.type && k (off + tf.size)
          | none => false)) (fun off => Nat.beq off ti.size)) 0
      | _ => false
    | none => false

section
variable {H : Type} {enc : TypeId × Value → H} {P : Program} {T : Nat → Option TI} {w : World} {base : Nat} {spare : Nat → Bool} {held : Bool}

theorem cell_lt {w : World} {a : Addr} {v : Value} (h : w.cell? a = some v) : a.block < w.heap.size := by
  unfold World.cell? at h
  rcases Nat.lt_or_ge a.block w.heap.size with h1 | h1
  · exact h1
  · rw [Array.getElem?_eq_none h1] at h; cases h

theorem cellsOf_tab (hT : TabOK P T) {t : Nat} {ti : TI} (ht : T t = some ti) : P.cellsOf t = ti.size := by
  obtain ⟨_, _, i, z, zs, h3, h4, _⟩ := hT t ti ht
  unfold Program.cellsOf
  rw [h3]
  simp [h4]

/-- What reads as data is data. -/
theorem trod_dat (hT : TabOK P T) : ∀ (n : Nat) (t : Nat) (cs : List Value) (fuel : Nat) (x : DataW H × List MemPlace), datT T n t = true → DataW.trod enc P w base spare held fuel t cs = some x →
    ∃ xs, Dat T n t xs ∧ xs.length = cs.length ∧ ∀ (j : Nat) (y : DV) (v : Value), xs[j]? = some y → cs[j]? = some v → RD (fun b => b < w.heap.size) w y v
  | 0, t, cs, fuel, x, h, _ => by simp [datT] at h
  | n + 1, t, cs, fuel, x, h, hx => by
    simp only [datT] at h
    simp only [Dat]
    cases hti : T t with
    | none => rw [hti] at h; cases h
    | some ti =>
      rw [hti] at h
      simp only at h ⊢
      have hu := (hT t ti hti).1
      have one : ∀ (y : DV) (v : Value), RD (fun b => b < w.heap.size) w y v → ∀ (j : Nat) (y' : DV) (v' : Value), [y][j]? = some y' → [v][j]? = some v' → RD (fun b => b < w.heap.size) w y' v' := by
        intro y v h j y' v' hy hv
        match j, hy, hv with
        | 0, hy, hv => simp at hy hv; subst hy; subst hv; exact h
        | j + 1, hy, hv => simp at hy
      cases hti2 : ti.u <;> rw [hti2] at h hu <;> simp only at h ⊢ <;> try (cases h; done)
      case bool =>
        obtain ⟨b, rfl, _⟩ := DataW.trod_bool hu hx
        exact ⟨_, ⟨b, rfl⟩, rfl, one _ _ (.bool b)⟩
      case int k =>
        obtain ⟨m, rfl, _, hw⟩ := DataW.trod_int hu hx
        simp only [Lit.wf, Bool.and_eq_true, decide_eq_true_eq] at hw
        exact ⟨_, ⟨m, hw.1, hw.2, rfl⟩, rfl, one _ _ (.int k m)⟩
      case string =>
        obtain ⟨s, rfl, _, hs⟩ := DataW.trod_string hu hx
        exact ⟨_, ⟨s, by omega, rfl⟩, rfl, one _ _ (.str s)⟩
      case slice e =>
        cases hte : T e with
        | none => rw [hte] at h; cases h
        | some te =>
          rw [hte] at h
          simp only [Bool.and_eq_true] at h ⊢
          obtain ⟨h0, h⟩ := h
          have hsz : te.size ≠ 0 := by
            intro e
            rw [e] at h0
            cases h0
          rcases open_slice hu hx with ⟨rfl, _⟩ | ⟨a, len, cap, m, k, D, Pl, rfl, hb, hl, hc, hm, _, hi⟩
          · exact ⟨_, .inl rfl, rfl, one _ _ .nil⟩
          · have hlm : len ≤ m := by rw [hm]; split <;> omega
            rw [cellsOf_tab hT hte] at hi
            have hel : ∀ i : Nat, ∃ r : List DV, i < len → (Dat T n e r ∧ r.length = te.size ∧ ∀ j, j < te.size → ∃ v y, w.cell? (a.add (i * te.size + j)) = some v ∧ r[j]? = some y ∧ RD (fun b => b < w.heap.size) w y v) := by
              intro i
              by_cases hil : i < len
              · obtain ⟨cs', hcs, htr⟩ := hi i (by omega)
                obtain ⟨_, hcl, hat⟩ := World.cells?_some hcs
                obtain ⟨r, h1, h2, h3⟩ := trod_dat hT n e cs' k _ h htr
                refine ⟨r, fun _ => ⟨h1, by omega, fun j hj => ?_⟩⟩
                have hj1 : j < cs'.length := by omega
                have hj2 : j < r.length := by omega
                refine ⟨cs'[j], r[j], ?_, List.getElem?_eq_getElem hj2, h3 j _ _ (List.getElem?_eq_getElem hj2) (List.getElem?_eq_getElem hj1)⟩
                rw [← add_of_add, hat j hj, List.getElem?_eq_getElem hj1]
              · exact ⟨[], fun h => absurd h hil⟩
            obtain ⟨R, hR⟩ := Classical.axiomOfChoice hel
            have hget : ∀ (i : Nat) (r : List DV), ((List.range len).map R)[i]? = some r → i < len ∧ r = R i := by
              intro i r hr
              rw [List.getElem?_map] at hr
              obtain ⟨i', hi', rfl⟩ := Option.map_eq_some_iff.1 hr
              have h1 := List.getElem?_eq_some_iff.1 hi'
              obtain ⟨h1, h2⟩ := h1
              simp at h1 h2
              subst h2
              exact ⟨h1, rfl⟩
            refine ⟨_, .inr ⟨(List.range len).map R, by simp; omega, fun r hr => ?_, rfl⟩, rfl, one _ _ ?_⟩
            · obtain ⟨i, hi', rfl⟩ := List.mem_map.1 hr
              exact (hR i (by simpa using hi')).1
            · by_cases hz : len = 0
              · subst hz
                simp only [List.range_zero, List.map_nil]
                exact .empty _ _ _
              · have hrl : ((List.range len).map R).length = len := by simp
                have := RD.list (N := fun b => b < w.heap.size) (w := w) te.size ((List.range len).map R) a cap (fun i j => (w.cell? (a.add (i * te.size + j))).getD Go.undef) (by rw [hrl]; exact hl) (by
                    obtain ⟨v, y, hv, _⟩ := (hR 0 (by omega)).2.2 0 (by omega)
                    have := cell_lt hv
                    rwa [block_of_add] at this) (fun i r hr => by
                    obtain ⟨h1, rfl⟩ := hget i r hr
                    exact (hR i h1).2.1) (fun i j hi' hj => by
                    obtain ⟨v, y, hv, _⟩ := (hR i (by omega)).2.2 j hj
                    simp [hv]) (fun i r hr j y hy => by
                    obtain ⟨h1, rfl⟩ := hget i r hr
                    have hj : j < te.size := by
                      have := (List.getElem?_eq_some_iff.1 hy).1
                      have := (hR i h1).2.1
                      omega
                    obtain ⟨v, y', hv, hy', hrd⟩ := (hR i h1).2.2 j hj
                    rw [hy] at hy'
                    cases hy'
                    simp only [hv, Option.getD_some]
                    exact hrd)
                rw [hrl] at this
                exact this
      case struct fs =>
        obtain ⟨ys, m, _, _, hcl, _, hf⟩ := DataW.trod_struct hu hx
        rw [cellsOf_tab hT hti] at hcl
        have hf' : ∀ f ∈ fs.toList, ∃ y, DataW.trod enc P w base spare held m f.type ((cs.drop f.offset).take (P.cellsOf f.type)) = some y := by
          intro f hfm
          obtain ⟨i, hi⟩ := List.mem_iff_getElem?.1 hfm
          have h1 := hf i f (by simpa using hi)
          have hi2 : i < ys.length := by
            have := (List.getElem?_eq_some_iff.1 hi).1
            simp at this
            omega
          exact ⟨ys[i], by rw [h1, List.getElem?_eq_getElem hi2]⟩
        have key : ∀ (l : List Field) (off : Nat), (∀ f ∈ l, ∃ y, DataW.trod enc P w base spare held m f.type ((cs.drop f.offset).take (P.cellsOf f.type)) = some y) →
            (l.foldr (fun f (k : Nat → Bool) off => Nat.beq f.offset off && (match T f.type with
              | some tf => datT T n f.type && k (off + tf.size)
              | none => false)) (fun off => Nat.beq off ti.size)) off = true → off ≤ cs.length →
            ∃ xs, (l.foldr (fun f (k : List DV → Prop) xs => ∃ a b, xs = a ++ b ∧ Dat T n f.type a ∧ k b) (fun xs => xs = [])) xs ∧ xs.length = cs.length - off ∧ ∀ (j : Nat) (y : DV) (v : Value), xs[j]? = some y → cs[off + j]? = some v → RD (fun b => b < w.heap.size) w y v := by
          intro l
          induction l with
          | nil =>
            intro off _ hb hle
            simp only [List.foldr_nil] at hb
            have := Nat.eq_of_beq_eq_true hb
            exact ⟨[], rfl, by simp; omega, fun j y v hy => by simp at hy⟩
          | cons f l ih =>
            intro off hfs hb hle
            simp only [List.foldr_cons, Bool.and_eq_true] at hb
            obtain ⟨hb1, hb2⟩ := hb
            have hb1 := Nat.eq_of_beq_eq_true hb1
            split at hb2 <;> try cases hb2
            rename_i tf htf
            simp only [Bool.and_eq_true] at hb2
            obtain ⟨y, hy⟩ := hfs f (by simp)
            obtain ⟨a, ha1, ha2, ha3⟩ := trod_dat hT n f.type _ m y hb2.1 hy
            have hlen : a.length = tf.size := by
              -- the reading speaks of as many cells as the type has
              have hall := hb2.2
              have hge : off + tf.size ≤ cs.length := by
                have hmono : ∀ (l : List Field) (off : Nat), (l.foldr (fun f (k : Nat → Bool) off => Nat.beq f.offset off && (match T f.type with
                    | some tf => datT T n f.type && k (off + tf.size)
                    | none => false)) (fun off => Nat.beq off ti.size)) off = true → off ≤ ti.size := by
                  intro l
                  induction l with
                  | nil =>
                    intro off h
                    simp only [List.foldr_nil] at h
                    exact Nat.le_of_eq (Nat.eq_of_beq_eq_true h)
                  | cons g l ih2 =>
                    intro off h
                    simp only [List.foldr_cons, Bool.and_eq_true] at h
                    obtain ⟨_, h⟩ := h
                    split at h <;> try cases h
                    simp only [Bool.and_eq_true] at h
                    have := ih2 _ h.2
                    omega
                have := hmono l _ hall
                omega
              rw [ha2, cellsOf_tab hT htf]
              simp
              omega
            have hle2 : off + tf.size ≤ cs.length := by
              rw [ha2, cellsOf_tab hT htf] at hlen
              simp at hlen
              by_cases h0 : tf.size = 0
              · omega
              · omega
            obtain ⟨b, hb1', hb2', hb3'⟩ := ih (off + tf.size) (fun g hg => hfs g (by simp [hg])) hb2.2 hle2
            refine ⟨a ++ b, ?_, by simp [hlen, hb2']; omega, fun j y' v hy' hv => ?_⟩
            · simp only [List.foldr_cons]
              exact ⟨a, b, rfl, ha1, hb1'⟩
            · by_cases hj : j < a.length
              · rw [List.getElem?_append_left hj] at hy'
                refine ha3 j y' v hy' ?_
                rw [List.getElem?_take, if_pos (by rw [cellsOf_tab hT htf]; omega), List.getElem?_drop, hb1]
                exact hv
              · rw [List.getElem?_append_right (by omega)] at hy'
                refine hb3' (j - a.length) y' v hy' ?_
                rw [← hv]
                congr 1
                omega
        obtain ⟨xs, h1, h2, h3⟩ := key fs.toList 0 hf' h (Nat.zero_le _)
        exact ⟨xs, h1, by simpa using h2, fun j y v hy hv => h3 j y v hy (by simpa using hv)⟩
end
end Go.Pv
