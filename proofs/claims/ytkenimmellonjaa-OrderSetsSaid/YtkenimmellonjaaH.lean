/- OrderSets. -/
import Derived.Test.YtkenimmellonjaaG
import Derived.Test.YtkenimmellonjaaD0
import Derived.Test.YtkenimmellonjaaRn
namespace Go.Proofs.Ytkenimmellonjaa
open Go.Pv Go.RowKit Go.Shelf
abbrev EnvA (l s : List Int) (b : Int) (i : Nat) : Env :=
  [(0, .d (.list 1 (rowsI l))), (1, .d (.int .i64 b)), (5, .d (.bool true)), (6, .d (.list 1 (rowsI s))), (7, .d (.int .i64 i))]
abbrev EnvB (l s : List Int) (b : Int) (i : Nat) : Env :=
  [(0, .d (.list 1 (rowsI l))), (1, .d (.int .i64 b)), (5, .d (.bool true)), (6, .d (.list 1 (rowsI s))), (8, .d (.int .i64 i))]
set_option maxRecDepth 100000 in
theorem orderSets (l : List Int) (b : Int) : Contract Try.prog G0 10 [.d (.list 1 (rowsI l)), .d (.int .i64 b)] [] (fun r t => r = .d (.bool true) ∧ t = []) := by
  have hlen := rowsI_len l
  refine run10 0 [] rfl rfl ?_
  conv => whnf
  refine .scal [] _ ⟨.refl _, rfl, first18⟩ ?_
  conv => whnf
  refine bcase_intro (fun h => ?_) (fun h => ?_) <;> conv => whnf
  · exact ⟨rfl, rfl⟩
  have hl : l.length ≤ 20 := by have := of_decide_eq_false h; omega
  refine .data [.d (.list 1 (rowsI l))] _ ⟨WkL.refl _, rfl, set19 l (by omega)⟩ ?_
  conv => whnf
  have hsl := setI_len l
  have hinc := setI_inc l
  have hmem := setI_mem l
  have hmore := setI_more l b
  generalize setI l = s at hsl hinc hmem hmore
  have hslen := rowsI_len s
  refine StopG.rounds wk10 [] [0, 1, 5, 6, 7] (fun m env st => ∃ i : Nat, i ≤ s.length ∧ m = s.length - i ∧ env = EnvA l s b i ∧ st = []) rfl ?_ ?_
  · conv => whnf
    exact ⟨_, 0, Nat.zero_le _, rfl, rfl, rfl⟩
  rintro m env st ⟨i, hi, rfl, rfl, rfl⟩
  conv => whnf
  refine bcase_intro (fun h => ?_) (fun h => ?_)
  · have h := lt_of h
    rw [hslen] at h
    obtain ⟨x, hx, hdrop⟩ := at_i h
    conv => whnf
    obtain ⟨y, hy⟩ : ∃ y : Int, y = (s[i - 1]?).getD 0 := ⟨_, rfl⟩
    have hy2 : 0 < i → s[i - 1]? = .some y := fun h0 => by rw [hy, List.getElem?_eq_getElem (by omega)]; rfl
    refine ⟨rowI y, fun hg => ?_, ?_⟩
    · have hg : decide ((i : Int) > 0) = true := by simpa [HG, lit, rfind] using hg
      have h0 : 0 < i := by have := of_decide_eq_true hg; omega
      rw [pred_i h0 (by omega)]
      exact ⟨by omega, row_i (hy2 h0)⟩
    conv => whnf
    refine ⟨rowI x, fun _ => ⟨by omega, row_i hx⟩, ?_⟩
    conv => whnf
    refine ⟨rowI x, fun _ => ⟨by omega, row_i hx⟩, ?_⟩
    conv => whnf
    have hax : (l.any fun q => q == x) = true := by
      rw [List.any_eq_true]
      exact ⟨x, (hmem x).1 (List.mem_of_getElem? hx), by simp⟩
    refine .scal [.d (.list 1 (rowsI l)), .d (.int .i64 x)] _ (fun _ => ⟨.refl _, rfl, among l (by omega) x⟩) ?_
    rw [hax]
    conv => whnf
    have hlt : (bif decide ((i : Int) > 0) then decide (y ≥ x) else false) = false := by
      cases h0 : decide ((i : Int) > 0) with
      | false => rfl
      | true =>
        have h0 : 0 < i := by have := of_decide_eq_true h0; omega
        obtain ⟨q1, q2⟩ := List.getElem?_eq_some_iff.1 (hy2 h0)
        obtain ⟨q3, q4⟩ := List.getElem?_eq_some_iff.1 hx
        have := List.pairwise_iff_getElem.1 hinc (i - 1) i q1 q3 (by omega)
        rw [q2, q4] at this
        exact decide_eq_false (by omega)
    rw [hlt]
    conv => whnf
    rw [succ_i h (by omega)]
    exact ⟨_, by omega, i + 1, h, rfl, rfl, rfl⟩
  · conv => whnf
    refine StopG.rounds wk10 [] [0, 1, 5, 6, 8] (fun m env st => ∃ i : Nat, i ≤ l.length ∧ m = l.length - i ∧ env = EnvB l s b i ∧ st = []) rfl ?_ ?_
    · conv => whnf
      exact ⟨_, 0, Nat.zero_le _, rfl, rfl, rfl⟩
    rintro m env st ⟨i, hi, rfl, rfl, rfl⟩
    conv => whnf
    refine bcase_intro (fun h => ?_) (fun h => ?_) <;> conv => whnf
    · have h := lt_of h
      rw [hlen] at h
      obtain ⟨x, hx, hdrop⟩ := at_i h
      refine ⟨rowI x, ⟨by omega, row_i hx⟩, ?_⟩
      conv => whnf
      have hax : (s.any fun q => x == q) = true := by
        rw [List.any_eq_true]
        exact ⟨x, (hmem x).2 (List.mem_of_getElem? hx), by simp⟩
      refine .scal [.d (.list 1 (rowsI s)), .d (.int .i64 x)] _ ⟨.refl _, rfl, has s (by omega) x⟩ ?_
      rw [hax]
      conv => whnf
      rw [succ_i h (by omega)]
      exact ⟨_, by omega, i + 1, h, rfl, rfl, rfl⟩
    · refine .obj rfl ?_
      conv => whnf
      refine ⟨_, _, ⟨WkL.refl _, ints43 l (by omega)⟩, fun res s1 h => ?_⟩
      obtain ⟨c, hc, rfl, rfl⟩ := h
      conv => whnf
      refine ⟨by rw [hlen]; exact Nat.le_refl _, ⟨?_, ?_⟩, ?_⟩
      · show (2 * (l.length + 1) + 1024) * 8 ≤ 281474976710656; omega
      · show l.length + 1 ≤ _; omega
      conv => whnf
      intro c2 hc2
      conv => whnf
      have hso := set19_own (l ++ [b]) (by simp; omega) c2
      have er : rowsI (l ++ [b]) = List.take l.length (rowsI l) ++ [[.int .i64 b]] := by
        rw [List.take_of_length_le (by rw [hlen]; exact Nat.le_refl _)]
        simp [rowsI, rowI]
      rw [er, show (l ++ [b]).length = l.length + 1 by simp] at hso
      refine .obj rfl ?_
      conv => whnf
      refine ⟨_, _, ⟨WkL.refl _, hso⟩, fun res s1 h => ?_⟩
      obtain ⟨rfl, rfl⟩ := h
      conv => whnf
      have hms := rowsI_len (setI (l ++ [b]))
      have hmm := setI_mem (l ++ [b]) b
      have hbin : ((setI (l ++ [b])).any fun y => b == y) = true := by
        rw [List.any_eq_true]
        exact ⟨b, hmm.2 (by simp), by simp⟩
      have hml : (setI (l ++ [b])).length ≤ 1000 := by have := setI_len (l ++ [b]); simp at this; omega
      generalize setI (l ++ [b]) = mo at hmore hms hbin hml
      refine .scal [.d (.list 1 (rowsI s)), .d (.int .i64 b)] _ ⟨.refl _, rfl, has s (by omega) b⟩ ?_
      conv => whnf
      have hss : setI s = s := setI_perm (.refl _) hinc
      obtain ⟨s0, hs0⟩ : ∃ y : Int, y = (s[0]?).getD 0 := ⟨_, rfl⟩
      have hsz : 0 < s.length → s[0]? = .some s0 := fun h0 => by rw [hs0, List.getElem?_eq_getElem h0]; rfl
      have hne : (leastI l).2 = decide (((rowsI s).length : Int) > 0) := by
        rw [hslen]
        cases l with
        | nil =>
          have : s = [] := List.eq_nil_iff_forall_not_mem.2 fun x hx => by have := (hmem x).1 hx; cases this
          rw [this]; rfl
        | cons x r =>
          have := List.length_pos_of_mem ((hmem x).2 (by simp))
          symm
          exact decide_eq_true (by omega)
      have hle : (leastI l).2 = true → (leastI l).1 = s0 := by
        intro h0
        cases l with
        | nil => cases h0
        | cons x r => exact least_head rfl hinc hmem (hsz (List.length_pos_of_mem ((hmem x).2 (by simp))))
      refine bcase_intro (fun h3 => ?_) (fun h3 => ?_) <;> conv => whnf
      all_goals
        refine .scal [.d (.list 1 (rowsI l))] _ ⟨.refl _, rfl, least42 l (by omega)⟩ ?_
        conv => whnf
        refine .data [.d (.list 1 (rowsI s))] _ (fun _ => ⟨WkL.refl _, rfl, set19 s (by omega)⟩) ?_
        rw [hss]
        conv => whnf
        refine .scal [.d (.list 1 (rowsI s)), .d (.list 1 (rowsI s))] _ (fun _ => ⟨.refl _, rfl, same22 s s (by omega)⟩) ?_
        conv => whnf
        refine .scal [.d (.list 1 (rowsI mo)), .d (.int .i64 b)] _ (fun _ => ⟨.refl _, rfl, has mo (by omega) b⟩) ?_
        conv => whnf
        refine ⟨rowI s0, fun hg => ?_, ?_⟩
        · have hg2 : (!(leastI l).2) = false := hg.1
          have h5 : (leastI l).2 = true := by simpa using hg2
          rw [hne] at h5
          have h6 := of_decide_eq_true h5
          have h7 : 0 < s.length := by omega
          exact ⟨by decide, by simp [rowsI, hsz h7]⟩
        conv => whnf
        refine .scal [.d (.int .i64 1), .d (.int .i64 ((2 : Nat) : Int))] _ (fun _ => ⟨.refl _, rfl, number 1 2 (by omega) (by omega)⟩) ?_
        conv => whnf
        refine ⟨rd_bool ?_, rfl⟩
        rw [show ((numB 1 2 : Nat) : Int) = 1 by decide]
        have hwr : IntKind.i64.wrap (((rowsI s).length : Int) + 1) = ((s.length + 1 : Nat) : Int) := by rw [hslen]; exact succ_i (n := 1000) (by omega) (by omega)
        have h3' : (s.any fun y => b == y) = !(!s.any fun y => b == y) := by simp
        rw [h3', h3] at hmore
        rw [hslen] at hwr
        have hlast : (bif !decide ((s.length : Int) > 0) then true else (leastI l).1 == s0) = true := by
          rw [hslen] at hne
          cases h5 : decide ((s.length : Int) > 0) with
          | false => rfl
          | true => rw [h5] at hne; simp [hle hne]
        simp only [hmore, hms, hslen, hbin, hwr, hne, hlast]
        simp
end Go.Proofs.Ytkenimmellonjaa
