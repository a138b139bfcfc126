/- Seat r2: what is wanted, what is bid. -/
import Derived.Test.YtkenimmellonjaaZ
namespace Go.Proofs.Ytkenimmellonjaa
open Go.Pv Go.RowKit Go.Shelf
def rowC (c : Int × Int) : List DV := [.int .i64 c.1, .int .i64 c.2]
def rowsC (l : List (Int × Int)) : List (List DV) := l.map rowC
theorem rowsC_len (l : List (Int × Int)) : (rowsC l).length = l.length := by simp [rowsC]
def callE (e : En) : Int × Int := (e.fl, e.dr)
def wishE (car : Int) (e : En) : Bool := bif !(ofB e.bids car).2 then decide (e.aw < 0) else false
def wishL (car : Int) (l : List En) : List (Int × Int) := (l.filter (wishE car)).map callE
def wantL (mem : List Int) (car : Int) (l : List En) : List (Int × Int) := if (mem.any fun y => car == y) = true then wishL car l else []
theorem wishL_snoc {l : List En} {car : Int} {i : Nat} {x : En} (hx : l[i]? = some x) : wishL car (l.take (i + 1)) = wishL car (l.take i) ++ (match wishE car x with | true => [callE x] | false => []) := by
  rw [List.take_add_one, hx]
  simp only [wishL, List.filter_append, List.map_append, Option.toList]
  cases h : wishE car x <;> simp [h]
theorem wishL_len (car : Int) (l : List En) : (wishL car l).length ≤ l.length := by
  rw [wishL, List.length_map]; exact List.length_filter_le _ _
set_option maxRecDepth 100000 in
theorem wants (cnt fdr hop : Int) (mem : List Int) (hm : mem.length ≤ 100000) (l : List En) (hl : l.length ≤ 1000) (hb : ∀ e ∈ l, e.bids.length ≤ 100000) (car : Int) : Contract Try.prog G0 60 [awG cnt fdr hop mem l, .d (.int .i64 car)] [] (fun r t => r = .d (.list 2 (rowsC (wantL mem car l))) ∧ t = []) := by
  have hlen := rowsE_len l
  refine Contract.as_list (by decide) ?_
  refine run60 0 [] rfl rfl ?_
  conv => whnf
  refine .scal [.d (.list 1 (rowsI mem)), .d (.int .i64 car)] _ ⟨.refl _, rfl, has mem (by omega) car⟩ ?_
  conv => whnf
  refine bcase_intro (fun hh => ?_) (fun hh => ?_) <;> conv => whnf
  · have hh : (mem.any fun y => car == y) = false := by simpa using hh
    rw [wantL, if_neg (by rw [hh]; decide)]
    exact .inl ⟨.inl rfl, rfl, rfl⟩
  have hh : (mem.any fun y => car == y) = true := by simpa using hh
  rw [wantL, if_pos hh]
  refine StopG.rounds wk60 [] [1, 5, 16, 17, 18] (fun m env s => ∃ i : Nat, ∃ w, wishL car (l.take i) = w ∧ i ≤ l.length ∧ m = l.length - i ∧ ((w = [] ∧ env = [(1, .d (.int .i64 car)), (5, .d .nil), (16, .d (.list 5 (rowsE l))), (17, .d (.int .i64 ((rowsE l).length : Int))), (18, .d (.int .i64 (i : Int)))] ∧ s = []) ∨ ∃ wc, w.length ≤ wc ∧ env = [(1, .d (.int .i64 car)), (5, .slc (.g 0) 2 0 w.length wc), (16, .d (.list 5 (rowsE l))), (17, .d (.int .i64 ((rowsE l).length : Int))), (18, .d (.int .i64 (i : Int)))] ∧ s = [(0, .row 2 (rowsC w))])) rfl ?_ ?_
  · conv => whnf
    exact ⟨_, 0, [], rfl, Nat.zero_le _, rfl, .inl ⟨rfl, rfl, rfl⟩⟩
  rintro m env s ⟨i, w, hw, hi, rfl, hout⟩
  rcases hout with ⟨rfl, rfl, rfl⟩ | ⟨wc, hwc, rfl, rfl⟩
  · conv => whnf
    refine bcase_intro (fun h => ?_) (fun h => ?_) <;> conv => whnf
    · have hil := lt_of h
      rw [hlen] at hil
      obtain ⟨x, hx, hdrop⟩ := at_i hil
      have hxb := hb x (List.mem_of_getElem? hx)
      refine ⟨rowE x, ⟨by omega, row_i hx⟩, ?_⟩
      conv => whnf
      refine .data [.d (.list 2 (rowsB x.bids)), .d (.int .i64 car)] _ ⟨WkL.refl _, rfl, of_ x.bids (by omega) car⟩ ?_
      conv => whnf
      refine bcase_intro (fun hg => ?_) (fun hg => ?_) <;> conv => whnf
      · have hwon : wishE car x = true := hg
        refine ⟨⟨?_, ?_⟩, ?_⟩
        · show (2 * 1 + 1024) * 16 ≤ 281474976710656; omega
        · show 1 ≤ _; omega
        conv => whnf
        intro c2 hc2
        conv => whnf
        rw [succ_i hil (by omega)]
        refine ⟨_, by omega, i + 1, [callE x], ?_, hil, rfl, .inr ⟨c2, hc2, rfl, rfl⟩⟩
        rw [wishL_snoc hx, hw, hwon]; rfl
      · have hwon : wishE car x = false := hg
        rw [succ_i hil (by omega)]
        refine ⟨_, by omega, i + 1, [], ?_, hil, rfl, .inl ⟨rfl, rfl, rfl⟩⟩
        rw [wishL_snoc hx, hw, hwon]; rfl
    · have hil := ge_of h
      rw [hlen] at hil
      rw [show i = l.length by omega, List.take_length] at hw
      rw [hw]
      exact .inl ⟨.inl rfl, rfl, rfl⟩
  · conv => whnf
    refine bcase_intro (fun h => ?_) (fun h => ?_) <;> conv => whnf
    · have hil := lt_of h
      rw [hlen] at hil
      obtain ⟨x, hx, hdrop⟩ := at_i hil
      have hxb := hb x (List.mem_of_getElem? hx)
      refine ⟨rowE x, ⟨by omega, row_i hx⟩, ?_⟩
      conv => whnf
      refine .data [.d (.list 2 (rowsB x.bids)), .d (.int .i64 car)] _ ⟨WkL.refl _, rfl, of_ x.bids (by omega) car⟩ ?_
      conv => whnf
      refine bcase_intro (fun hg => ?_) (fun hg => ?_) <;> conv => whnf
      · have hwon : wishE car x = true := hg
        have hwl : w.length ≤ 1000 := by
          rw [← hw]
          refine Nat.le_trans (wishL_len _ _) ?_
          simp; omega
        have hrl := rowsC_len w
        refine ⟨by omega, ⟨?_, ?_⟩, ?_⟩
        · show (2 * (w.length + 1) + 1024) * 16 ≤ 281474976710656; omega
        · show w.length + 1 ≤ _; omega
        conv => whnf
        intro c2 hc2
        conv => whnf
        rw [succ_i hil (by omega), List.take_of_length_le (by omega)]
        refine ⟨_, by omega, i + 1, w ++ [callE x], ?_, hil, rfl, .inr ⟨c2, by simpa using hc2, ?_, ?_⟩⟩
        · rw [wishL_snoc hx, hw, hwon]
        · rw [List.length_append]; rfl
        · rw [show rowsC (w ++ [callE x]) = rowsC w ++ [rowC (callE x)] by simp [rowsC]]; rfl
      · have hwon : wishE car x = false := hg
        rw [succ_i hil (by omega)]
        refine ⟨_, by omega, i + 1, w, ?_, hil, rfl, .inr ⟨wc, hwc, rfl, rfl⟩⟩
        rw [wishL_snoc hx, hw, hwon, List.append_nil]
    · have hil := ge_of h
      rw [hlen] at hil
      rw [show i = l.length by omega, List.take_length] at hw
      rw [hw]
      exact .inr ⟨wc, by rw [rowsC_len]; exact hwc, by rw [rowsC_len], rfl⟩
abbrev entV (e : En) : AV := .agg [.d (.int .i64 e.fl), .d (.int .i64 e.dr), .d (.int .i64 e.gn), .d (.list 2 (rowsB e.bids)), .d (.int .i64 e.aw)]
def isC (c : Int × Int) (e : En) : Bool := bif e.fl == c.1 then e.dr == c.2 else false
set_option maxRecDepth 100000 in
theorem at116 (e : En) (a b : Int) : Contract Try.prog G0 116 [entV e, .d (.ptr [.int .i64 a, .int .i64 b] 0)] [] (fun r s => r = .d (.bool (isC (a, b) e)) ∧ s = []) := by
  refine run116 0 [] rfl rfl ?_
  conv => whnf
  refine ⟨⟨by kernel_rfl, by kernel_rfl⟩, ?_⟩
  conv => whnf
  exact ⟨rfl, rfl⟩
set_option maxRecDepth 100000 in
theorem index96 (l : List En) (hl : l.length ≤ 4611686018427387904) (p : En → Bool) (f : Nat) (cs : List DV) (hf : ∀ x, Contract Try.prog G0 f [entV x, .d (.ptr cs 0)] [] (fun r t => r = .d (.bool (p x)) ∧ t = [])) :
    Contract Try.prog G0 96 [.d (.list 5 (rowsE l)), .fn f [.d (.ptr cs 0)]] [] (fun r t => r = .d (.int .i64 (idxFrom p l 0)) ∧ t = []) := by
  have hlen := rowsE_len l
  refine run96 0 [] rfl rfl ?_
  conv => whnf
  refine StopG.rounds wk96 [] [0, 1, 4, 7, 8] (fun m env s => ∃ i : Nat, i ≤ l.length ∧ m = l.length - i ∧ idxFrom p (l.drop i) i = idxFrom p l 0 ∧
    env = [(0, .d (.list 5 (rowsE l))), (1, .fn f [.d (.ptr cs 0)]), (4, .d (.int .i64 0)), (7, .d (.int .i64 ((rowsE l).length : Int))), (8, .d (.int .i64 (i : Int)))] ∧ s = []) rfl ?_ ?_
  · conv => whnf
    exact ⟨_, 0, Nat.zero_le _, rfl, rfl, rfl, rfl⟩
  rintro m env s ⟨i, hi, rfl, hidx, rfl, rfl⟩
  conv => whnf
  refine bcase_intro (fun h => ?_) (fun h => ?_) <;> conv => whnf
  · have h := lt_of h
    rw [hlen] at h
    obtain ⟨x, hx, hdrop⟩ := at_i h
    refine ⟨rowE x, ⟨by omega, row_i hx⟩, ?_⟩
    conv => whnf
    refine .scal [entV x, .d (.ptr cs 0)] _ ⟨.refl _, rfl, hf x⟩ ?_
    conv => whnf
    rw [hdrop, idxFrom] at hidx
    refine bcase_intro (fun h2 => ?_) (fun h2 => ?_) <;> conv => whnf
    · rw [if_pos h2] at hidx
      exact ⟨rd_int hidx, rfl⟩
    · rw [succ_i h (by omega)]
      refine ⟨_, by omega, i + 1, h, rfl, ?_, rfl, rfl⟩
      rw [if_neg (by rw [h2]; decide)] at hidx
      exact hidx
  · have h := ge_of h
    rw [hlen] at h
    rw [show l.drop i = [] from List.drop_of_length_le h, idxFrom] at hidx
    exact ⟨rd_int hidx, rfl⟩
set_option maxRecDepth 100000 in
theorem at87 (cnt fdr hop : Int) (mem : List Int) (l : List En) (hl : l.length ≤ 4611686018427387904) (a b : Int) : Contract Try.prog G0 87 [awG cnt fdr hop mem l, calV a b] [] (fun r t => r = .d (.int .i64 (idxFrom (isC (a, b)) l 0)) ∧ t = []) := by
  refine run87 0 [] rfl rfl ?_
  conv => whnf
  refine .scal [.d (.list 5 (rowsE l)), .fn 116 [.d (.ptr [.int .i64 a, .int .i64 b] 0)]] _ ⟨.fz 1 _ rfl (by simp) (by repeat' first | exact trivial | apply And.intro) (.refl _), rfl, index96 l hl _ 116 _ fun e => at116 e a b⟩ ?_
  conv => whnf
  exact ⟨rfl, rfl⟩
end Go.Proofs.Ytkenimmellonjaa
