/- Seat r2: who wants what: the walk. -/
import Derived.Test.YtkenimmellonjaaMB
import Derived.Test.YtkenimmellonjaaAA
import Derived.Test.YtkenimmellonjaaO
namespace Go.Proofs.Ytkenimmellonjaa
open Go.Pv Go.RowKit Go.Shelf
set_option maxRecDepth 100000 in
theorem ledgerWants (cnt fdr hop : Int) (mem : List Int) (l : List En) (hl : l.length ≤ maxLen) (n : Int) : Contract Try.prog G0 14 [awG cnt fdr hop mem l, .d (.int .i64 n)] [] (fun r t => r = .d (.bool true) ∧ t = []) := by
  refine run14 0 [] rfl rfl ?_
  conv => whnf
  refine .scal [] _ ⟨.refl _, rfl, first47⟩ ?_
  conv => whnf
  refine .scal [awG cnt fdr hop mem l] _ ⟨.refl _, rfl, light cnt fdr hop mem l hl⟩ ?_
  conv => whnf
  refine bcase_intro (fun hli => ?_) (fun hli => ?_) <;> conv => whnf
  · exact ⟨rfl, rfl⟩
  have hli : lightB cnt fdr hop mem l = true := by simpa using hli
  have ok := light_ok hli
  have hlen := rowsE_len l
  have hmn := rowsI_len mem
  have hm := ok.ml
  have hl := ok.ll
  have hbb : ∀ e ∈ l, e.bids.length ≤ 100000 := fun e he => Nat.le_trans (ok.bl e he) (by decide)
  refine .scal [.d (.int .i64 n), .d (.int .i64 16)] _ ⟨.refl _, rfl, num24 n 16 (by decide) (by decide)⟩ ?_
  conv => whnf
  have hok := want_ok hli (numB n 16 : Int)
  generalize (numB n 16 : Int) = car at hok
  refine .data [awG cnt fdr hop mem l, .d (.int .i64 car)] _ ⟨.refl _, rfl, wants cnt fdr hop mem (by omega) l (by omega) hbb car⟩ ?_
  conv => whnf
  refine .scal [.d (.list 1 (rowsI mem)), .d (.int .i64 car)] _ ⟨.refl _, rfl, among mem (by omega) car⟩ ?_
  conv => whnf
  have hWl := want_len mem car l
  have hWr := rowsC_len (wantL mem car l)
  refine StopG.rounds wk14 [] [1, 2, 5, 6, 7, 8, 9] (fun m env s => ∃ i : Nat, i ≤ l.length ∧ m = l.length - i ∧ env = [(1, .d (.int .i64 car)), (2, .ref (.g 0) 0), (5, .d (.bool true)), (6, .d (.list 2 (rowsC (wantL mem car l)))), (7, .d (.bool (mem.any fun y => y == car))), (8, .d (.int .i64 (((wantL mem car (l.take i)).length : Nat) : Int))), (9, .d (.int .i64 (i : Int)))] ∧ s = [(0, celR cnt fdr hop mem l)]) rfl ?_ ?_
  · conv => whnf
    have h0 : wantL mem car ([] : List En) = [] := by rw [want_eq]; rfl
    exact ⟨_, 0, Nat.zero_le _, rfl, by rw [List.take_zero, h0]; rfl, rfl⟩
  rintro m env s ⟨i, hi, rfl, rfl, rfl⟩
  have hWi : (wantL mem car (l.take i)).length ≤ 30 := Nat.le_trans (want_len _ _ _) (by simp; omega)
  conv => whnf
  refine bcase_intro (fun h => ?_) (fun h => ?_) <;> conv => whnf
  · have hil := lt_of h
    rw [hlen] at hil
    obtain ⟨x, hx, _⟩ := at_i hil
    have hxb := ok.bl x (List.mem_of_getElem? hx)
    have hxr := rowsB_len x.bids
    refine StopG.rounds wk14 [] [1, 2, 5, 6, 7, 8, 9, 10, 11] (fun m env s => ∃ a : Nat, a ≤ x.bids.length ∧ m = x.bids.length - a ∧ env = [(1, .d (.int .i64 car)), (2, .ref (.g 0) 0), (5, .d (.bool true)), (6, .d (.list 2 (rowsC (wantL mem car l)))), (7, .d (.bool (mem.any fun y => y == car))), (8, .d (.int .i64 (((wantL mem car (l.take i)).length : Nat) : Int))), (9, .d (.int .i64 (i : Int))), (10, .d (.bool ((x.bids.take a).any fun b => b.1 == car))), (11, .d (.int .i64 (a : Int)))] ∧ s = [(0, celR cnt fdr hop mem l)]) rfl ?_ ?_
    · conv => whnf
      exact ⟨_, 0, Nat.zero_le _, rfl, rfl, rfl⟩
    rintro m env s ⟨a, ha, rfl, rfl, rfl⟩
    conv => whnf
    refine ⟨rowE x, ⟨by omega, row_i hx⟩, ?_⟩
    conv => whnf
    refine bcase_intro (fun h => ?_) (fun h => ?_) <;> conv => whnf
    · have hal := lt_of h
      rw [hxr] at hal
      obtain ⟨b, hbx, _⟩ := at_i hal
      refine ⟨rowE x, fun _ => ⟨by omega, row_i hx⟩, ?_⟩
      conv => whnf
      refine ⟨rowB b, fun _ => ⟨by omega, row_i hbx⟩, ?_⟩
      conv => whnf
      rw [succ_i hal (by omega)]
      refine ⟨_, by omega, a + 1, hal, rfl, ?_, rfl⟩
      rw [List.take_add_one, hbx, List.any_append]
      simp only [Option.toList, List.any_cons, List.any_nil, Bool.or_false]
      cases ((x.bids.take a).any fun b => b.1 == car) <;> rfl
    have hal := ge_of h
    rw [hxr] at hal
    rw [List.take_of_length_le hal]
    refine ⟨rowE x, fun _ => ⟨by omega, row_i hx⟩, ?_⟩
    conv => whnf
    refine bcase_intro (fun hg => ?_) (fun hg => ?_) <;> conv => whnf
    · have hon : onB mem car x = true := hg
      rw [succ_i hil (by omega)]
      exact ⟨_, by omega, i + 1, hil, rfl, by rw [want_skip hx hon], rfl⟩
    have hon : onB mem car x = false := hg
    have hat := want_at hx hon
    have hlt := (List.getElem?_eq_some_iff.1 hat).1
    refine ⟨rowC (callE x), fun _ => ⟨by omega, row_i hat⟩, ?_⟩
    conv => whnf
    refine ⟨rowE x, fun _ => ⟨by omega, row_i hx⟩, ?_⟩
    conv => whnf
    refine .scal [calV x.fl x.dr, calV x.fl x.dr] _ (fun _ => ⟨.refl _, rfl, sameCall _ _ _ _⟩) ?_
    conv => whnf
    refine bcase_intro (fun hq => ?_) (fun hq => ?_) <;> conv => whnf
    · rw [hWr, show decide (((wantL mem car (l.take i)).length : Int) ≥ ((wantL mem car l).length : Int)) = false from decide_eq_false (by omega)] at hq
      simp at hq
    rw [succ_i hil (by omega), succ_i (i := (wantL mem car (l.take i)).length) (Nat.lt_succ_self _) (by omega)]
    exact ⟨_, by omega, i + 1, hil, rfl, by rw [want_more hx hon, List.length_append]; rfl, rfl⟩
  have hil := ge_of h
  rw [hlen] at hil
  rw [List.take_of_length_le hil, hWr, show (((wantL mem car l).length : Int) != ((wantL mem car l).length : Int)) = false by simp]
  conv => whnf
  generalize hW : wantL mem car l = W at hok hWl hWr
  refine StopG.rounds wk14 [] [1, 2, 5, 6, 12, 13] (fun m env s => ∃ k : Nat, k ≤ W.length ∧ m = W.length - k ∧ env = [(1, .d (.int .i64 car)), (2, .ref (.g 0) 0), (5, .d (.bool true)), (6, .d (.list 2 (rowsC W))), (12, .ref (.g 1) 0), (13, .d (.int .i64 (k : Int)))] ∧ s = [(0, celR cnt fdr hop mem l), (1, celR cnt fdr hop mem (bidsL mem car W l k))]) rfl ?_ ?_
  · conv => whnf
    exact ⟨_, 0, Nat.zero_le _, rfl, rfl, rfl⟩
  rintro m env s ⟨k, hk, rfl, rfl, rfl⟩
  have hsl : (bidsL mem car W l k).length = l.length := by have := (hok.sane k (by rw [hW]; exact hk)).1; rwa [hW] at this
  have hsb : ∀ e ∈ bidsL mem car W l k, e.bids.length ≤ 16 + k := by have := (hok.sane k (by rw [hW]; exact hk)).2; rwa [hW] at this
  conv => whnf
  refine bcase_intro (fun h => ?_) (fun h => ?_) <;> conv => whnf
  · have hkl := lt_of h
    rw [hWr] at hkl
    obtain ⟨c, hc, _⟩ := at_i hkl
    refine ⟨rowC c, ⟨by omega, row_i hc⟩, ?_⟩
    conv => whnf
    refine .data [awG cnt fdr hop mem (bidsL mem car W l k), bidv (car, (k : Int)), calV c.1 c.2] _ ⟨WkL.refl _, rfl, bid cnt fdr hop mem (by omega) _ (by omega) (fun e he => Nat.le_trans (hsb e he) (by omega)) (car, (k : Int)) c⟩ ?_
    conv => whnf
    have hst := hok.step k c (by rw [hW]; exact hc)
    rw [hW] at hst
    have hnx : bidsL mem car W l (k + 1) = (bidL mem (car, (k : Int)) c (bidsL mem car W l k)).1 := by
      show (match W[k]? with | some c => _ | none => _) = _
      rw [hc]
    have hsan := hok.sane (k + 1) (by rw [hW]; exact hkl)
    rw [hW] at hsan
    rw [hnx] at hst hsan
    refine .data [awG cnt fdr hop mem (bidL mem (car, (k : Int)) c (bidsL mem car W l k)).1, .d (.int .i64 car)] _ (fun _ => ⟨WkL.refl _, rfl, wants cnt fdr hop mem (by omega) _ (by omega) (fun e he => Nat.le_trans (hsan.2 e he) (by omega)) car⟩) ?_
    conv => whnf
    refine bcase_intro (fun hg => ?_) (fun hg => ?_) <;> conv => whnf
    · rw [hst.1, rowsC_len, hst.2, hWr, wrap_id (n := (W.length : Int) - (k : Int)) (by omega) (by omega), wrap_id (n := (W.length : Int) - (k : Int) - 1) (by omega) (by omega), show ((W.length - k - 1 : Nat) : Int) = (W.length : Int) - (k : Int) - 1 by omega] at hg
      simp at hg
    · rw [succ_i hkl (by omega), ← hnx]
      exact ⟨_, by omega, k + 1, hkl, rfl, rfl, rfl⟩
  · refine ⟨?_, rfl⟩
    rw [rowsE_len, hsl, hlen]
    simp
end Go.Proofs.Ytkenimmellonjaa
