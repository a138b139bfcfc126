/- OrderSets: plain laws. -/
import Derived.Test.YtkenimmellonjaaF
namespace Go.Proofs.Ytkenimmellonjaa
open Go.Pv Go.RowKit Go.Shelf
theorem inc_eq {a b : List Int} (ha : IncI a) (hb : IncI b) (h : ∀ x, x ∈ a ↔ x ∈ b) : a = b := by
  have hp : a.Perm b := (List.perm_ext_iff_of_nodup (inc_nodup ha) (inc_nodup hb)).2 h
  exact sorted_eq hp (ha.imp fun h => by omega) (hb.imp fun h => by omega)
theorem setI_more (l : List Int) (b : Int) : (setI (l ++ [b])).length = (setI l).length + (if (setI l).any (fun y => b == y) then 0 else 1) := by
  cases h : (setI l).any (fun y => b == y) with
  | true =>
    rw [List.any_eq_true] at h
    obtain ⟨y, hy, he⟩ := h
    have he : b = y := by simpa using he
    subst he
    have : setI (l ++ [b]) = setI l := inc_eq (setI_inc _) (setI_inc _) fun x => by
      rw [setI_mem, setI_mem, List.mem_append, List.mem_singleton]
      constructor
      · rintro (h | rfl)
        · exact h
        · exact (setI_mem _ _).1 hy
      · exact .inl
    rw [this]
    simp
  | false =>
    have hb : b ∉ setI l := fun hm => by
      rw [List.any_eq_false] at h
      exact h b hm (by simp)
    have hp : (setI (l ++ [b])).Perm (b :: setI l) := by
      refine (List.perm_ext_iff_of_nodup (inc_nodup (setI_inc _)) (List.nodup_cons.2 ⟨hb, inc_nodup (setI_inc _)⟩)).2 fun x => ?_
      rw [setI_mem, List.mem_append, List.mem_singleton, List.mem_cons, setI_mem, or_comm]
    rw [hp.length_eq]
    simp
theorem least_head {l : List Int} {x : Int} {r s : List Int} (hl : l = x :: r) (hs : IncI s) (hm : ∀ y, y ∈ s ↔ y ∈ l) {a : Int} (ha : s[0]? = .some a) : minI x r = a := by
  subst hl
  have h1 : minI x r ∈ x :: r := by
    rcases minI_mem r x with h | h
    · rw [h]; simp
    · simp [h]
  have h2 : a ∈ x :: r := (hm a).1 (List.mem_of_getElem? ha)
  have h3 := minI_le r x a (by simpa using h2)
  have h4 : a ≤ minI x r := by
    have h5 := (hm _).2 h1
    cases s with
    | nil => cases h5
    | cons y q =>
      simp at ha
      subst ha
      rcases List.mem_cons.1 h5 with h | h
      · omega
      · have := (List.pairwise_cons.1 hs).1 _ h; omega
  omega
end Go.Proofs.Ytkenimmellonjaa
