/- Seat r2: rings that are light; the first look. -/
import Derived.Test.YtkenimmellonjaaY
import Derived.Test.YtkenimmellonjaaK
namespace Go.Proofs.Ytkenimmellonjaa
open Go.Pv Go.RowKit Go.Shelf
def fat (e : En) : Bool := decide ((e.bids.length : Int) > 16)
def lightB (cnt fdr hop : Int) (mem : List Int) (l : List En) : Bool :=
  bif l.any fat then false else bif bif decide ((mem.length : Int) ≤ 16) then decide ((l.length : Int) ≤ 30) else false then vRing cnt fdr hop mem l == 0 else false
theorem succ_m {i n : Nat} (h : i < n) (hn : n ≤ maxLen) : IntKind.wrap .i64 ((i : Int) + 1) = ((i + 1 : Nat) : Int) := by
  have e : maxLen = 9223372036854775807 := rfl
  rw [wrap_id (by omega) (by omega)]
  rfl
set_option maxRecDepth 100000 in
theorem light (cnt fdr hop : Int) (mem : List Int) (l : List En) (hl : l.length ≤ maxLen) : Contract Try.prog G0 48 [awG cnt fdr hop mem l] [] (fun r t => r = .d (.bool (lightB cnt fdr hop mem l)) ∧ t = []) := by
  have hlen := rowsE_len l
  have hmn := rowsI_len mem
  refine run48 0 [] rfl rfl ?_
  conv => whnf
  refine StopG.rounds wk48 [] [1, 3] (fun m env s => ∃ i : Nat, i ≤ l.length ∧ l.any fat = (l.drop i).any fat ∧ m = l.length - i ∧ env = [(1, .ref (.g 0) 0), (3, .d (.int .i64 (i : Int)))] ∧ s = [(0, .cells [.d (.int .i64 cnt), .d (.int .i64 fdr), .d (.int .i64 hop), .d (.list 1 (rowsI mem)), .d (.list 5 (rowsE l))])]) rfl ?_ ?_
  · conv => whnf
    exact ⟨_, 0, Nat.zero_le _, rfl, rfl, rfl, rfl⟩
  rintro m env s ⟨i, hi, h5, rfl, rfl, rfl⟩
  conv => whnf
  refine bcase_intro (fun h => ?_) (fun h => ?_) <;> conv => whnf
  · have hil := lt_of h
    rw [hlen] at hil
    obtain ⟨x, hx, hdrop⟩ := at_i hil
    refine ⟨rowE x, ⟨by omega, row_i hx⟩, ?_⟩
    conv => whnf
    rw [hdrop, List.any_cons] at h5
    refine bcase_intro (fun hb => ?_) (fun hb => ?_) <;> conv => whnf
    · rw [rowsB_len] at hb
      rw [show fat x = true from hb, Bool.true_or] at h5
      rw [lightB, h5]; exact ⟨rfl, rfl⟩
    · rw [rowsB_len] at hb
      rw [show fat x = false from hb, Bool.false_or] at h5
      rw [succ_m hil hl]
      exact ⟨_, by omega, i + 1, hil, h5, rfl, rfl, rfl⟩
  have hil := ge_of h
  rw [hlen] at hil
  rw [show l.drop i = [] from List.drop_of_length_le hil] at h5
  have h5 : l.any fat = false := h5
  refine .scal [awG cnt fdr hop mem l] (.d (.int .i64 (vRing cnt fdr hop mem l))) (fun hg => ⟨.refl _, rfl, ?_⟩) ?_
  · have hg2 : (bif decide (((rowsI mem).length : Int) ≤ 16) then decide (((rowsE l).length : Int) ≤ 30) else false) = true := by simpa [HG, lit, rfind] using hg
    rw [hlen, hmn] at hg2
    have h1 : mem.length ≤ 16 ∧ l.length ≤ 30 := by
      cases h2 : decide ((mem.length : Int) ≤ 16) <;> rw [h2] at hg2 <;> simp at h2 hg2
      omega
    refine validRing cnt fdr hop mem (by omega) l (by omega) fun e he => ?_
    have h3 := (List.any_eq_false.1 h5) e he
    have h4 : ¬ ((e.bids.length : Int) > 16) := by simpa [fat] using h3
    omega
  · conv => whnf
    rw [hlen, hmn, lightB, h5]; exact ⟨rfl, rfl⟩
set_option maxRecDepth 100000 in
theorem new_nil (cnt fdr : Int) (l : List Int) (hl : l.length ≤ 100000) : Contract Try.prog G0 65 [epoV cnt fdr, .d (.list 1 (rowsI l))] [] (fun r t => r = rgV cnt fdr 0 (setI l) (.d .nil) ∧ t = []) := by
  refine run65 0 [] rfl rfl ?_
  conv => whnf
  refine .data [.d (.list 1 (rowsI l))] _ ⟨WkL.refl _, rfl, set19 l hl⟩ ?_
  conv => whnf
  exact ⟨rfl, rfl⟩
theorem new (cnt fdr : Int) (l : List Int) (hl : l.length ≤ 100000) : Contract Try.prog G0 65 [epoV cnt fdr, .d (.list 1 (rowsI l))] [] (fun r t => r = awG cnt fdr 0 (setI l) [] ∧ t = []) :=
  (new_nil cnt fdr l hl).weak 5 fun r t h => by
    obtain ⟨h, rfl⟩ := h; subst h; exact ⟨rfl, rfl, rfl, rfl⟩
theorem newO (cnt fdr : Int) (l : List Int) (hl : l.length ≤ 100000) (cap : Nat) : Contract Try.prog G0 65 [epoV cnt fdr, .slc (.g 0) 1 0 l.length cap] [(0, .row 1 (rowsI l))] (fun r t => r = awG cnt fdr 0 (setI l) [] ∧ t = [(0, .dead)]) := by
  have h0 := new cnt fdr l hl
  have e : fzL 0 (AB.row 1 (rowsI l)) [epoV cnt fdr, .slc (.g 0) 1 0 l.length cap] = [epoV cnt fdr, .d (.list 1 ((List.drop 0 (rowsI l)).take l.length))] := rfl
  have hrl := rowsI_len l
  refine Contract.frz (by simp) (by repeat' first | exact trivial | apply And.intro | decide | (simp; done) | omega) rfl ?_
  rw [e, List.drop_zero, List.take_of_length_le (by rw [rowsI_len]; exact Nat.le_refl _)]
  exact h0
set_option maxRecDepth 100000 in
theorem first47 : Contract Try.prog G0 47 [] [] (fun r t => r = .d (.bool true) ∧ t = []) := by
  refine run47 0 [] rfl rfl ?_
  conv => whnf
  refine .data [epoV 1 0, .d (.list 1 (rowsI [2, 0, 2]))] _ ⟨.refl _, rfl, new 1 0 [2, 0, 2] (by decide)⟩ ?_
  rw [show setI [2, 0, 2] = [0, 2] from by rw [← set6_eq]; decide]
  conv => whnf
  refine .data [awG 1 0 0 [0, 2] []] _ ⟨.refl _, rfl, award 1 0 0 [0, 2] (by decide) [] (by decide) (by simp)⟩ ?_
  conv => whnf
  refine ⟨rowI 0, fun _ => ⟨by decide, rfl⟩, ?_⟩
  conv => whnf
  exact ⟨rfl, rfl⟩
end Go.Proofs.Ytkenimmellonjaa
