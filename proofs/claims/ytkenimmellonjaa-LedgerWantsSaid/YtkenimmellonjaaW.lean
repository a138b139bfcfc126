/- Seat r2: whose it is. -/
import Derived.Test.YtkenimmellonjaaV
namespace Go.Proofs.Ytkenimmellonjaa
open Go.Pv Go.RowKit Go.Shelf
/-- The latch of an entry. -/
def rowK (e : Int × Int × Int) : List DV := [.int .i64 e.1, .int .i64 e.2.1, .int .i64 e.2.2]
def rowsK (l : List (Int × Int × Int)) : List (List DV) := l.map rowK
theorem rowsK_len (l : List (Int × Int × Int)) : (rowsK l).length = l.length := by simp [rowsK]
def keyE (e : En) : Int × Int × Int := (e.fl, e.dr, e.gn)
def hisE (who : Int) (e : En) : Bool := bif decide (0 ≤ e.aw) then decide (e.aw = who) else false
def mineL (who : Int) (l : List En) : List (Int × Int × Int) := (l.filter (hisE who)).map keyE
theorem mineL_snoc {l : List En} {who : Int} {i : Nat} {x : En} (hx : l[i]? = some x) : mineL who (l.take (i + 1)) = mineL who (l.take i) ++ (match hisE who x with | true => [keyE x] | false => []) := by
  rw [List.take_add_one, hx]
  simp only [mineL, List.filter_append, List.map_append, Option.toList]
  cases h : hisE who x <;> simp [h]
theorem mineL_len (who : Int) (l : List En) : (mineL who l).length ≤ l.length := by
  rw [mineL, List.length_map]; exact List.length_filter_le _ _
set_option maxRecDepth 100000 in
theorem mine (cnt fdr hop : Int) (mem : List Int) (l : List En) (hl : l.length ≤ 1000) (who : Int) : Contract Try.prog G0 50 [awG cnt fdr hop mem l, .d (.int .i64 who)] [] (fun r t => r = .d (.list 3 (rowsK (mineL who l))) ∧ t = []) := by
  have hlen := rowsE_len l
  refine Contract.as_list (by decide) ?_
  refine run50 0 [] rfl rfl ?_
  conv => whnf
  refine StopG.rounds wk50 [] [1, 5, 9, 10, 11] (fun m env s => ∃ i : Nat, ∃ w, mineL who (l.take i) = w ∧ i ≤ l.length ∧ m = l.length - i ∧ ((w = [] ∧ env = [(1, .d (.int .i64 who)), (5, .d .nil), (9, .d (.list 5 (rowsE l))), (10, .d (.int .i64 ((rowsE l).length : Int))), (11, .d (.int .i64 (i : Int)))] ∧ s = []) ∨ ∃ wc, w.length ≤ wc ∧ env = [(1, .d (.int .i64 who)), (5, .slc (.g 0) 3 0 w.length wc), (9, .d (.list 5 (rowsE l))), (10, .d (.int .i64 ((rowsE l).length : Int))), (11, .d (.int .i64 (i : Int)))] ∧ s = [(0, .row 3 (rowsK w))])) rfl ?_ ?_
  · conv => whnf
    exact ⟨_, 0, [], rfl, Nat.zero_le _, rfl, .inl ⟨rfl, rfl, rfl⟩⟩
  rintro m env s ⟨i, w, hw, hi, rfl, hout⟩
  rcases hout with ⟨rfl, rfl, rfl⟩ | ⟨wc, hwc, rfl, rfl⟩
  · conv => whnf
    refine bcase_intro (fun h => ?_) (fun h => ?_) <;> conv => whnf
    · have hil := lt_of h
      rw [hlen] at hil
      obtain ⟨x, hx, hdrop⟩ := at_i hil
      refine ⟨rowE x, ⟨by omega, row_i hx⟩, ?_⟩
      conv => whnf
      refine bcase_intro (fun hg => ?_) (fun hg => ?_) <;> conv => whnf
      · have hwon : hisE who x = true := hg
        refine ⟨⟨?_, ?_⟩, ?_⟩
        · show (2 * 1 + 1024) * 24 ≤ 281474976710656; omega
        · show 1 ≤ _; omega
        conv => whnf
        intro c2 hc2
        conv => whnf
        rw [succ_i hil (by omega)]
        refine ⟨_, by omega, i + 1, [keyE x], ?_, hil, rfl, .inr ⟨c2, hc2, rfl, rfl⟩⟩
        rw [mineL_snoc hx, hw, hwon]; rfl
      · have hwon : hisE who x = false := hg
        rw [succ_i hil (by omega)]
        refine ⟨_, by omega, i + 1, [], ?_, hil, rfl, .inl ⟨rfl, rfl, rfl⟩⟩
        rw [mineL_snoc hx, hw, hwon]; rfl
    · have hil := ge_of h
      rw [hlen] at hil
      rw [show i = l.length by omega, List.take_length] at hw
      rw [hw]
      exact .inl ⟨.inl rfl, rfl, rfl⟩
  · conv => whnf
    refine bcase_intro (fun h => ?_) (fun h => ?_) <;> conv => whnf
    · have hil := lt_of h
      rw [hlen] at hil
      obtain ⟨x, hx, hdrop⟩ := at_i hil
      refine ⟨rowE x, ⟨by omega, row_i hx⟩, ?_⟩
      conv => whnf
      refine bcase_intro (fun hg => ?_) (fun hg => ?_) <;> conv => whnf
      · have hwon : hisE who x = true := hg
        have hwl : w.length ≤ 1000 := by
          rw [← hw]
          refine Nat.le_trans (mineL_len _ _) ?_
          simp; omega
        have hrl := rowsK_len w
        refine ⟨by omega, ⟨?_, ?_⟩, ?_⟩
        · show (2 * (w.length + 1) + 1024) * 24 ≤ 281474976710656; omega
        · show w.length + 1 ≤ _; omega
        conv => whnf
        intro c2 hc2
        conv => whnf
        rw [succ_i hil (by omega), List.take_of_length_le (by omega)]
        refine ⟨_, by omega, i + 1, w ++ [keyE x], ?_, hil, rfl, .inr ⟨c2, by simpa using hc2, ?_, ?_⟩⟩
        · rw [mineL_snoc hx, hw, hwon]
        · rw [List.length_append]; rfl
        · rw [show rowsK (w ++ [keyE x]) = rowsK w ++ [rowK (keyE x)] by simp [rowsK]]; rfl
      · have hwon : hisE who x = false := hg
        rw [succ_i hil (by omega)]
        refine ⟨_, by omega, i + 1, w, ?_, hil, rfl, .inr ⟨wc, hwc, rfl, rfl⟩⟩
        rw [mineL_snoc hx, hw, hwon, List.append_nil]
    · have hil := ge_of h
      rw [hlen] at hil
      rw [show i = l.length by omega, List.take_length] at hw
      rw [hw]
      exact .inr ⟨wc, by rw [rowsK_len]; exact hwc, by rw [rowsK_len], rfl⟩
end Go.Proofs.Ytkenimmellonjaa
