/- Seat r2: latches and calls told apart. -/
import Derived.Test.YtkenimmellonjaaW
namespace Go.Proofs.Ytkenimmellonjaa
open Go.Pv Go.RowKit Go.Shelf
abbrev calV (fl dr : Int) : AV := .agg [.d (.int .i64 fl), .d (.int .i64 dr)]
abbrev latV (fl dr gn : Int) : AV := .agg [.d (.int .i64 fl), .d (.int .i64 dr), .d (.int .i64 gn)]
set_option maxRecDepth 100000 in
theorem sameCall (a b a' b' : Int) : Contract Try.prog G0 57 [calV a b, calV a' b'] [] (fun r t => r = .d (.bool (bif a == a' then b == b' else false)) ∧ t = []) := by
  refine run57 0 [] rfl rfl ?_
  conv => whnf
  exact ⟨rfl, rfl⟩
set_option maxRecDepth 100000 in
theorem sameLatch (a b c a' b' c' : Int) : Contract Try.prog G0 58 [latV a b c, latV a' b' c'] [] (fun r t => r = .d (.bool (bif (bif a == a' then b == b' else false) then c == c' else false)) ∧ t = []) := by
  refine run58 0 [] rfl rfl ?_
  conv => whnf
  refine .scal [calV a b, calV a' b'] _ ⟨.refl _, rfl, sameCall a b a' b'⟩ ?_
  conv => whnf
  exact ⟨rfl, rfl⟩
set_option maxRecDepth 100000 in
theorem lessCall (a b a' b' : Int) : Contract Try.prog G0 59 [calV a b, calV a' b'] [] (fun r t => r = .d (.bool (bif decide (a < a') then true else bif a == a' then decide (b < b') else false)) ∧ t = []) := by
  refine run59 0 [] rfl rfl ?_
  conv => whnf
  exact ⟨rfl, rfl⟩
def carB (x : Int) : Bool := bif decide (x ≥ 0) then decide (x < 16) else false
set_option maxRecDepth 100000 in
theorem car107 (x : Int) : Contract Try.prog G0 107 [.d (.int .i64 x)] [] (fun r t => r = .d (.bool (carB x)) ∧ t = []) := by
  refine run107 0 [] rfl rfl ?_
  conv => whnf
  exact ⟨rfl, rfl⟩
def epoB (cnt fdr : Int) : Bool := bif bif bif decide (cnt ≥ 1) then decide (cnt ≤ 4294967295) else false then decide (fdr ≥ 0) else false then decide (fdr < 16) else false
set_option maxRecDepth 100000 in
theorem epoch106 (cnt fdr : Int) : Contract Try.prog G0 106 [.agg [.d (.int .i64 cnt), .d (.int .i64 fdr)]] [] (fun r t => r = .d (.bool (epoB cnt fdr)) ∧ t = []) := by
  refine run106 0 [] rfl rfl ?_
  conv => whnf
  exact ⟨rfl, rfl⟩
def sameK (x y : Int × Int × Int) : Bool := bif (bif x.1 == y.1 then x.2.1 == y.2.1 else false) then x.2.2 == y.2.2 else false
def hasK (l : List (Int × Int × Int)) (y : Int × Int × Int) : Bool := l.any fun x => sameK x y
set_option maxRecDepth 100000 in
theorem hasLatch (l : List (Int × Int × Int)) (hl : l.length ≤ 100000) (a b c : Int) : Contract Try.prog G0 45 [.d (.list 3 (rowsK l)), latV a b c] [] (fun r t => r = .d (.bool (hasK l (a, b, c))) ∧ t = []) := by
  have hlen := rowsK_len l
  refine run45 0 [] rfl rfl ?_
  conv => whnf
  refine StopG.rounds wk45 [] [0, 3, 5] (fun m env s => ∃ i : Nat, i ≤ l.length ∧ (hasK l (a, b, c) = hasK (l.drop i) (a, b, c)) ∧ m = l.length - i ∧ env = [(0, .d (.list 3 (rowsK l))), (3, .ref (.g 0) 0), (5, .d (.int .i64 (i : Int)))] ∧ s = [(0, .cells [.d (.int .i64 a), .d (.int .i64 b), .d (.int .i64 c)])]) rfl ?_ ?_
  · conv => whnf
    exact ⟨_, 0, Nat.zero_le _, rfl, rfl, rfl, rfl⟩
  rintro m env s ⟨i, hi, hh, rfl, rfl, rfl⟩
  conv => whnf
  refine bcase_intro (fun h => ?_) (fun h => ?_) <;> conv => whnf
  · have hil := lt_of h
    rw [hlen] at hil
    obtain ⟨x, hx, hdrop⟩ := at_i hil
    refine ⟨rowK x, ⟨by omega, row_i hx⟩, ?_⟩
    conv => whnf
    refine .scal [latV x.1 x.2.1 x.2.2, latV a b c] _ ⟨.refl _, rfl, sameLatch _ _ _ _ _ _⟩ ?_
    conv => whnf
    rw [hdrop] at hh
    refine bcase_intro (fun hg => ?_) (fun hg => ?_) <;> conv => whnf
    · have hs : sameK x (a, b, c) = true := hg
      rw [hh, hasK, List.any_cons, hs]
      exact ⟨rfl, rfl⟩
    · have hs : sameK x (a, b, c) = false := hg
      rw [succ_i hil (by omega)]
      refine ⟨_, by omega, i + 1, hil, ?_, rfl, rfl, rfl⟩
      rw [hh, hasK, List.any_cons, hs, Bool.false_or]; rfl
  · have hil := ge_of h
    rw [hlen] at hil
    rw [hh, show l.drop i = [] from List.drop_of_length_le hil]
    exact ⟨rfl, rfl⟩
end Go.Proofs.Ytkenimmellonjaa
