/- Seat r2: what is awarded is somebody's: the walk. -/
import Derived.Test.YtkenimmellonjaaMA
namespace Go.Proofs.Ytkenimmellonjaa
open Go.Pv Go.RowKit Go.Shelf
theorem add_i {a b : Nat} (h : a + b ≤ 4611686018427387904) : IntKind.wrap .i64 ((a : Int) + (b : Int)) = ((a + b : Nat) : Int) := by
  rw [show (a : Int) + (b : Int) = ((a + b : Nat) : Int) by omega]
  exact wrap_id (by omega) (by omega)
theorem sum_snoc {f : Int → Nat} {l : List Int} {i : Nat} {x : Int} (hx : l[i]? = some x) : ((l.take (i + 1)).map f).sum = ((l.take i).map f).sum + f x := by
  rw [List.take_add_one, hx]
  simp
theorem sum_le {f : Int → Nat} {b : Nat} (h : ∀ x, f x ≤ b) : ∀ (l : List Int), (l.map f).sum ≤ l.length * b
  | [] => by simp
  | x :: r => by
    have h1 := sum_le h r
    have h2 := h x
    simp only [List.map_cons, List.sum_cons, List.length_cons, Nat.succ_mul]
    omega
def nnB (e : En) : Bool := decide (e.aw ≥ 0)
theorem cnt_snoc {l : List En} {i : Nat} {x : En} (hx : l[i]? = some x) : ((l.take (i + 1)).filter nnB).length = ((l.take i).filter nnB).length + (if nnB x = true then 1 else 0) := by
  rw [List.take_add_one, hx]
  simp only [List.filter_append, List.length_append, Option.toList]
  cases h : nnB x <;> simp [h]
theorem cnt_le (l : List En) (i : Nat) : ((l.take i).filter nnB).length ≤ l.length := Nat.le_trans (List.length_filter_le _ _) (by simp; omega)
theorem awE_same {mem : List Int} {x : En} (h : nnB x = true) : awE mem x = x := by
  refine awE_not ?_
  have h1 : x.aw ≥ 0 := by simpa [nnB] using h
  rw [wonE, show decide (x.aw < 0) = false from decide_eq_false (by omega)]; rfl
abbrev celR (cnt fdr hop : Int) (mem : List Int) (l : List En) : AB := .cells [.d (.int .i64 cnt), .d (.int .i64 fdr), .d (.int .i64 hop), .d (.list 1 (rowsI mem)), .d (.list 5 (rowsE l))]
set_option maxRecDepth 100000 in
theorem ledgerMine (cnt fdr hop : Int) (mem : List Int) (l : List En) (hl : l.length ≤ maxLen) : Contract Try.prog G0 12 [awG cnt fdr hop mem l] [] (fun r t => r = .d (.bool true) ∧ t = []) := by
  refine run12 0 [] rfl rfl ?_
  conv => whnf
  refine .scal [] _ ⟨.refl _, rfl, first47⟩ ?_
  conv => whnf
  refine .scal [awG cnt fdr hop mem l] _ ⟨.refl _, rfl, light cnt fdr hop mem l hl⟩ ?_
  conv => whnf
  refine bcase_intro (fun hli => ?_) (fun hli => ?_) <;> conv => whnf
  · exact ⟨rfl, rfl⟩
  have ok := light_ok (show lightB cnt fdr hop mem l = true by simpa using hli)
  have hlen := rowsE_len l
  have hmn := rowsI_len mem
  have hm := ok.ml
  have hl := ok.ll
  have hbb : ∀ e ∈ l, e.bids.length ≤ 100000 := fun e he => Nat.le_trans (ok.bl e he) (by decide)
  have hbb2 : ∀ e ∈ l.map (awE mem), e.bids.length ≤ 100000 := by
    intro e he
    obtain ⟨y, hy, rfl⟩ := List.mem_map.1 he
    have h1 := hbb y hy
    rw [awE]; split <;> exact h1
  refine .data [awG cnt fdr hop mem l] _ ⟨.refl _, rfl, award cnt fdr hop mem (by omega) l (by omega) hbb⟩ ?_
  generalize hL : l.map (awE mem) = L at hbb2
  have hLl : L.length = l.length := by rw [← hL, List.length_map]
  conv => whnf
  have hLn := rowsE_len L
  refine StopG.rounds wk12 [] [1, 3, 4, 5, 6, 7] (fun m env s => ∃ i : Nat, i ≤ mem.length ∧ m = mem.length - i ∧ env = [(1, .ref (.g 0) 0), (3, .d (.bool true)), (4, .ref (.g 1) 0), (5, .d (.list 5 (rowsE (wonL mem l)))), (6, .d (.int .i64 ((((mem.take i).map fun x => (mineL x L).length).sum : Nat) : Int))), (7, .d (.int .i64 (i : Int)))] ∧ s = [(0, celR cnt fdr hop mem l), (1, celR cnt fdr hop mem L)]) rfl ?_ ?_
  · conv => whnf
    exact ⟨_, 0, Nat.zero_le _, rfl, rfl, rfl⟩
  rintro m env s ⟨i, hi, rfl, rfl, rfl⟩
  conv => whnf
  refine bcase_intro (fun h => ?_) (fun h => ?_) <;> conv => whnf
  · have hil := lt_of h
    rw [hmn] at hil
    obtain ⟨x, hx, hdrop⟩ := at_i hil
    refine ⟨rowI x, ⟨by omega, row_i hx⟩, ?_⟩
    conv => whnf
    refine .data [awG cnt fdr hop mem L, .d (.int .i64 x)] _ ⟨.refl _, rfl, mine cnt fdr hop mem L (by omega) x⟩ ?_
    conv => whnf
    have hkl := rowsK_len (mineL x L)
    have hml := mineL_len x L
    have hsl := sum_le (f := fun x => (mineL x L).length) (b := L.length) (fun x => mineL_len x L) (mem.take i)
    have hsl2 : (((mem.take i).map fun x => (mineL x L).length).sum) ≤ 16 * 30 := Nat.le_trans hsl (Nat.mul_le_mul (by simp; omega) (by omega))
    rw [hkl, add_i (by omega), ← sum_snoc (f := fun x => (mineL x L).length) hx]
    refine StopG.rounds wk12 [] [1, 3, 4, 5, 6, 7, 8, 9] (fun m env s => ∃ a : Nat, a ≤ (mineL x L).length ∧ m = (mineL x L).length - a ∧ env = [(1, .ref (.g 0) 0), (3, .d (.bool true)), (4, .ref (.g 1) 0), (5, .d (.list 5 (rowsE (wonL mem l)))), (6, .d (.int .i64 (((((mem.take (i + 1)).map fun x => (mineL x L).length).sum : Nat) : Int) : Int))), (7, .d (.int .i64 (i : Int))), (8, .d (.list 3 (rowsK (mineL x L)))), (9, .d (.int .i64 (a : Int)))] ∧ s = [(0, celR cnt fdr hop mem l), (1, celR cnt fdr hop mem L)]) rfl ?_ ?_
    · conv => whnf
      exact ⟨_, 0, Nat.zero_le _, rfl, rfl, rfl⟩
    rintro m env s ⟨a, ha, rfl, rfl, rfl⟩
    conv => whnf
    refine bcase_intro (fun h => ?_) (fun h => ?_) <;> conv => whnf
    · have hal := lt_of h
      rw [hkl] at hal
      obtain ⟨k, hk, _⟩ := at_i hal
      refine StopG.rounds wk12 [] [1, 3, 4, 5, 6, 7, 8, 9, 10] (fun m env s => ∃ j : Nat, j ≤ mem.length ∧ m = mem.length - j ∧ env = [(1, .ref (.g 0) 0), (3, .d (.bool true)), (4, .ref (.g 1) 0), (5, .d (.list 5 (rowsE (wonL mem l)))), (6, .d (.int .i64 (((((mem.take (i + 1)).map fun x => (mineL x L).length).sum : Nat) : Int) : Int))), (7, .d (.int .i64 (i : Int))), (8, .d (.list 3 (rowsK (mineL x L)))), (9, .d (.int .i64 (a : Int))), (10, .d (.int .i64 (j : Int)))] ∧ s = [(0, celR cnt fdr hop mem l), (1, celR cnt fdr hop mem L)]) rfl ?_ ?_
      · conv => whnf
        exact ⟨_, 0, Nat.zero_le _, rfl, rfl, rfl⟩
      rintro m env s ⟨j, hj, rfl, rfl, rfl⟩
      conv => whnf
      refine bcase_intro (fun h => ?_) (fun h => ?_) <;> conv => whnf
      · have hjl := lt_of h
        rw [hmn] at hjl
        obtain ⟨y, hy, _⟩ := at_i hjl
        refine ⟨rowI y, fun _ => ⟨by omega, row_i hy⟩, ?_⟩
        conv => whnf
        refine .data [awG cnt fdr hop mem L, .d (.int .i64 y)] _ (fun _ => ⟨.refl _, rfl, mine cnt fdr hop mem L (by omega) y⟩) ?_
        conv => whnf
        refine ⟨rowK k, fun _ => ⟨by omega, row_i hk⟩, ?_⟩
        conv => whnf
        refine .scal [.d (.list 3 (rowsK (mineL y L))), latV k.1 k.2.1 k.2.2] _ (fun _ => ⟨.refl _, rfl, hasLatch (mineL y L) (Nat.le_trans (mineL_len y L) (by omega)) k.1 k.2.1 k.2.2⟩) ?_
        conv => whnf
        refine bcase_intro (fun hg => ?_) (fun hg => ?_) <;> conv => whnf
        · have hji : j ≠ i := by
            rintro rfl
            rw [show (((j : Nat) : Int) != ((j : Nat) : Int)) = false by simp] at hg
            cases hg
          have h1 := ok.apart i j x y hx hy hji k (by rw [hL]; exact List.mem_of_getElem? hk)
          rw [hL] at h1
          have h1 : hasK (mineL y L) (k.fst, k.snd.fst, k.snd.snd) = false := h1
          rw [h1] at hg
          revert hg
          cases ((j : Int) != (i : Int)) <;> exact fun hg => absurd hg (by decide)
        · rw [succ_i hjl (by omega)]
          exact ⟨_, by omega, j + 1, hjl, rfl, rfl, rfl⟩
      · rw [succ_i hal (by omega)]
        exact ⟨_, by omega, a + 1, hal, rfl, rfl, rfl⟩
    · rw [succ_i hil (by omega)]
      exact ⟨_, by omega, i + 1, hil, rfl, rfl, rfl⟩
  have hil := ge_of h
  rw [hmn] at hil
  rw [List.take_of_length_le hil]
  rw [hLn, hlen, hLl]
  have hne : ((l.length : Int) != (l.length : Int)) = false := by simp
  rw [hne]
  conv => whnf
  refine StopG.rounds wk12 [] [1, 3, 4, 5, 6, 11, 12, 13] (fun m env s => ∃ i : Nat, i ≤ l.length ∧ m = l.length - i ∧ env = [(1, .ref (.g 0) 0), (3, .d (.bool true)), (4, .ref (.g 1) 0), (5, .d (.list 5 (rowsE (wonL mem l)))), (6, .d (.int .i64 (((mem.map fun x => (mineL x L).length).sum : Nat) : Int))), (11, .d (.int .i64 (((L.take i).filter nnB).length : Int))), (12, .d (.int .i64 (((l.take i).filter nnB).length : Int))), (13, .d (.int .i64 (i : Int)))] ∧ s = [(0, celR cnt fdr hop mem l), (1, celR cnt fdr hop mem L)]) rfl ?_ ?_
  · conv => whnf
    exact ⟨_, 0, Nat.zero_le _, rfl, rfl, rfl⟩
  clear hil h hi i
  rintro m env s ⟨i, hi, rfl, rfl, rfl⟩
  conv => whnf
  refine bcase_intro (fun h => ?_) (fun h => ?_) <;> conv => whnf
  · have hil := lt_of h
    rw [hLn, hLl] at hil
    obtain ⟨x, hx, _⟩ := at_i hil
    have hX : L[i]? = some (awE mem x) := by rw [← hL, List.getElem?_map, hx]; rfl
    have hc1 := cnt_snoc hX
    have hc2 := cnt_snoc hx
    have hc3 := cnt_le L i
    have hc4 := cnt_le l i
    refine ⟨rowE (awE mem x), ⟨by omega, row_i hX⟩, ?_⟩
    conv => whnf
    refine bcase_intro (fun hg => ?_) (fun hg => ?_) <;> conv => whnf
    · have hg : nnB (awE mem x) = true := hg
      rw [if_pos hg] at hc1
      refine ⟨rowE x, ⟨by omega, row_i hx⟩, ?_⟩
      conv => whnf
      refine bcase_intro (fun hq => ?_) (fun hq => ?_) <;> conv => whnf
      · have hq : nnB x = true := hq
        rw [if_pos hq] at hc2
        have hsame := awE_same (mem := mem) hq
        refine ⟨rowE (awE mem x), ⟨by omega, row_i hX⟩, ?_⟩
        conv => whnf
        refine ⟨rowE x, ⟨by omega, row_i hx⟩, ?_⟩
        conv => whnf
        refine bcase_intro (fun hz => ?_) (fun hz => ?_) <;> conv => whnf
        · rw [hsame] at hz
          simp at hz
        · rw [succ_i hil (by omega), succ_i (i := ((L.take i).filter nnB).length) (Nat.lt_succ_self _) (by omega), succ_i (i := ((l.take i).filter nnB).length) (Nat.lt_succ_self _) (by omega), ← hc1, ← hc2]
          exact ⟨_, by omega, i + 1, hil, rfl, rfl, rfl⟩
      · have hq : nnB x = false := hq
        rw [if_neg (by rw [hq]; decide), Nat.add_zero (List.length _)] at hc2
        rw [succ_i hil (by omega), succ_i (i := ((L.take i).filter nnB).length) (Nat.lt_succ_self _) (by omega), ← hc1, ← hc2]
        exact ⟨_, by omega, i + 1, hil, rfl, rfl, rfl⟩
    · have hg : nnB (awE mem x) = false := hg
      rw [if_neg (by rw [hg]; decide), Nat.add_zero (List.length _)] at hc1
      refine ⟨rowE x, ⟨by omega, row_i hx⟩, ?_⟩
      conv => whnf
      refine bcase_intro (fun hq => ?_) (fun hq => ?_) <;> conv => whnf
      · have hq : nnB x = true := hq
        rw [awE_same hq, hq] at hg
        cases hg
      · have hq : nnB x = false := hq
        rw [if_neg (by rw [hq]; decide), Nat.add_zero (List.length _)] at hc2
        rw [succ_i hil (by omega), ← hc1, ← hc2]
        exact ⟨_, by omega, i + 1, hil, rfl, rfl, rfl⟩
  have hil := ge_of h
  rw [hLn, hLl] at hil
  rw [List.take_of_length_le hil, List.take_of_length_le (by omega)]
  refine .data [awG cnt fdr hop mem L] _ ⟨.refl _, rfl, award cnt fdr hop mem (by omega) L (by omega) hbb2⟩ ?_
  conv => whnf
  refine .data [awG cnt fdr hop mem L, .d (.int .i64 (-1))] _ (fun _ => ⟨.refl _, rfl, mine cnt fdr hop mem L (by omega) (-1)⟩) ?_
  conv => whnf
  refine .data [awG cnt fdr hop mem L, .d (.int .i64 99)] _ (fun _ => ⟨.refl _, rfl, mine cnt fdr hop mem L (by omega) 99⟩) ?_
  conv => whnf
  have a1 : (mem.map fun x => (mineL x L).length).sum = (L.filter nnB).length := by
    have := ok.sum
    rw [hL] at this; exact this
  have a2 : (L.filter nnB).length = (l.filter nnB).length + (wonL mem l).length := by
    have := ok.count
    rw [hL] at this; exact this
  have a3 := ok.again
  have a4 := ok.no1
  have a5 := ok.no99
  rw [hL] at a3 a4 a5
  have hw1 : (wonL mem l).length ≤ 30 := by
    rw [wonL, List.length_map]
    exact Nat.le_trans (List.length_filter_le _ _) (by omega)
  have hw2 : (l.filter nnB).length ≤ 30 := Nat.le_trans (List.length_filter_le _ _) (by omega)
  rw [rowsE_len, add_i (by omega), a1, ← a2, a3, a4, a5]
  refine ⟨?_, rfl⟩
  simp [rowsE, rowsK]
end Go.Proofs.Ytkenimmellonjaa
