/- The seat's texts, part 4: what single functions of the program compute; no statement of its own. -/
import Derived.Test.YtkenimmellonjaaGreatGC
import Derived.Test.YtkenimmellonjaaGreatGA
import Derived.Test.YtkenimmellonjaaGreatSp
/- Seat Z: entries the same; a hop further. -/
namespace Go.Proofs.YtkenimmellonjaaGreat
open Go.Pv Go.RowKit Go.Shelf
set_option maxRecDepth 100000 in
theorem sameBids99 (a b : List B) (ha : a.length ≤ 4611686018427387904) : Contract Tryz.prog G0 88 [.d (.list 2 (rowsB a)), .d (.list 2 (rowsB b))] [] (fun r t => r = .d (.bool (a == b)) ∧ t = []) := by
  have hlen := rowsB_len a
  have hlen2 := rowsB_len b
  refine run88 0 [] rfl rfl ?_
  conv => whnf
  refine bcase_intro (fun h => ?_) (fun h => ?_) <;> conv => whnf
  · rw [hlen, hlen2] at h
    refine ⟨rd_bool ?_, rfl⟩
    symm
    rw [beq_eq_false_iff_ne]
    rintro rfl
    simp at h
  have hab : a.length = b.length := by
    rw [hlen, hlen2] at h
    simp at h
    omega
  refine StopG.rounds wk88 [] [0, 1, 5] (fun m env s => ∃ i : Nat, i ≤ a.length ∧ m = a.length - i ∧ a.take i = b.take i ∧
    env = [(0, .d (.list 2 (rowsB a))), (1, .d (.list 2 (rowsB b))), (5, .d (.int .i64 (i : Int)))] ∧ s = []) rfl ?_ ?_
  · conv => whnf
    exact ⟨_, 0, Nat.zero_le _, rfl, rfl, rfl, rfl⟩
  rintro m env s ⟨i, hi, rfl, heq, rfl, rfl⟩
  conv => whnf
  refine bcase_intro (fun h => ?_) (fun h => ?_) <;> conv => whnf
  · have h := lt_of h
    rw [hlen] at h
    obtain ⟨x, hx, hdrop⟩ := at_i h
    obtain ⟨y, hy, hdrop2⟩ := at_i (l := b) (i := i) (by omega)
    refine ⟨rowB x, ⟨by omega, row_i hx⟩, ?_⟩
    conv => whnf
    refine ⟨rowB y, ⟨by omega, row_i hy⟩, ?_⟩
    conv => whnf
    refine .scal [bidv x, bidv y] _ ⟨.refl _, rfl, sameC x y⟩ ?_
    conv => whnf
    refine bcase_intro (fun h2 => ?_) (fun h2 => ?_) <;> conv => whnf
    · refine ⟨rd_bool ?_, rfl⟩
      symm
      rw [beq_eq_false_iff_ne]
      intro e
      subst e
      rw [hx] at hy
      cases hy
      rw [show sameB x x = true by simp [sameB]] at h2
      cases h2
    · rw [succ_i h ha]
      refine ⟨_, by omega, i + 1, h, rfl, ?_, rfl, rfl⟩
      have h2 : x = y := by
        have h3 : sameB x y = true := by simpa using h2
        simp only [sameB, Bool.and_eq_true, beq_iff_eq] at h3
        exact Prod.ext h3.1 h3.2
      rw [List.take_add_one, List.take_add_one, heq, hx, hy, h2]
  · have h := ge_of h
    rw [hlen] at h
    refine ⟨rd_bool ?_, rfl⟩
    rw [List.take_of_length_le h, List.take_of_length_le (by omega)] at heq
    symm
    simp [heq]

def sameE (x y : En) : Bool := bif (bif (bif (bif x.fl == y.fl then x.dr == y.dr else false) then x.gn == y.gn else false) then x.bids == y.bids else false) then x.aw == y.aw else false
set_option maxRecDepth 100000 in
theorem sameEntry (x y : En) (hx : x.bids.length ≤ 4611686018427387904) : Contract Tryz.prog G0 45 [entV x, entV y] [] (fun r t => r = .d (.bool (sameE x y)) ∧ t = []) := by
  refine run45 0 [] rfl rfl ?_
  conv => whnf
  refine .scal [latV x.fl x.dr x.gn, latV y.fl y.dr y.gn] _ ⟨.refl _, rfl, sameLatch _ _ _ _ _ _⟩ ?_
  conv => whnf
  refine .scal [.d (.list 2 (rowsB x.bids)), .d (.list 2 (rowsB y.bids))] _ (fun _ => ⟨.refl _, rfl, sameBids99 x.bids y.bids hx⟩) ?_
  conv => whnf
  exact ⟨rfl, rfl⟩
theorem sameE_refl (x : En) : sameE x x = true := by simp [sameE]
def passR (hop : Int) : Bool := !decide (hop ≥ 1099511627776)
def passH (hop : Int) : Int := bif decide (hop ≥ 1099511627776) then hop else IntKind.wrap .i64 (hop + 1)
set_option maxRecDepth 100000 in
theorem pass_nil (cnt fdr hop : Int) (mem : List Int) (hm : mem.length ≤ 100000) : Contract Tryz.prog G0 11 [awG cnt fdr hop mem []] [] (fun r t => r = .tup [awG cnt fdr (passH hop) mem [], .d (.bool (passR hop))] ∧ t = []) := by
  refine run11 0 [] rfl rfl ?_
  conv => whnf
  refine .obj rfl ?_
  conv => whnf
  refine ⟨_, _, ⟨WkL.refl _, own_nil cnt fdr hop mem hm⟩, fun res s1 h => ?_⟩
  obtain ⟨rfl, rfl⟩ := h
  conv => whnf
  refine bcase_intro (fun h => ?_) (fun h => ?_) <;> conv => whnf
  · rw [passH, passR, h]
    exact ⟨rfl, rfl⟩
  · rw [passH, passR, h]
    exact ⟨rfl, rfl⟩
set_option maxRecDepth 100000 in
theorem pass_cons (cnt fdr hop : Int) (mem : List Int) (hm : mem.length ≤ 100000) (e0 : En) (l0 : List En) (hl : l0.length ≤ 1000) (hb : ∀ e ∈ e0 :: l0, e.bids.length ≤ 100000) :
    Contract Tryz.prog G0 11 [awG cnt fdr hop mem (e0 :: l0)] [] (fun r t => ∃ c, l0.length + 1 ≤ c ∧ r = .tup [rgV cnt fdr (passH hop) mem (.slc (.g 0) 5 0 (l0.length + 1) c), .d (.bool (passR hop))] ∧ t = [(0, .row 5 (rowsE (e0 :: l0)))]) := by
  refine run11 0 [] rfl rfl ?_
  conv => whnf
  refine .obj rfl ?_
  conv => whnf
  refine ⟨_, _, ⟨WkL.refl _, own_cons cnt fdr hop mem hm e0 l0 hl hb⟩, fun res s1 h => ?_⟩
  obtain ⟨c, hc, rfl, rfl⟩ := h
  conv => whnf
  refine bcase_intro (fun h => ?_) (fun h => ?_) <;> conv => whnf
  · rw [passH, passR, h]
    exact ⟨c, hc, rfl, rfl⟩
  · rw [passH, passR, h]
    exact ⟨c, hc, rfl, rfl⟩
theorem pass (cnt fdr hop : Int) (mem : List Int) (hm : mem.length ≤ 100000) (l : List En) (hl : l.length ≤ 1000) (hb : ∀ e ∈ l, e.bids.length ≤ 100000) :
    Contract Tryz.prog G0 11 [awG cnt fdr hop mem l] [] (fun r t => r = .tup [awG cnt fdr (passH hop) mem l, .d (.bool (passR hop))] ∧ t = []) := by
  cases l with
  | nil => exact pass_nil cnt fdr hop mem hm
  | cons e0 l0 =>
    refine (pass_cons cnt fdr hop mem hm e0 l0 (by simp at hl; omega) hb).told fun r t hr => ?_
    obtain ⟨c, hc, rfl, rfl⟩ := hr
    refine ⟨.tup [awG cnt fdr (passH hop) mem (e0 :: l0), .d (.bool (passR hop))], ?_, rfl, rfl, rfl⟩
    have hrl := rowsE_len (e0 :: l0)
    simp only [List.length_cons] at hrl
    refine GV.trans (GV.freeze 0 rfl (by simp) (by repeat' first | exact trivial | apply And.intro | decide | (simp; done) | (simp; omega) | omega) (by repeat' first | exact trivial | apply And.intro)) (GV.tidied [0] ?_)
    conv => whnf
    rw [List.drop_zero, List.take_of_length_le (by omega)]
    exact ⟨rfl, rfl⟩
end Go.Proofs.YtkenimmellonjaaGreat
/- Seat Z: things held against each other. -/
namespace Go.Proofs.YtkenimmellonjaaGreat
open Go.Pv Go.RowKit Go.Shelf
theorem not_t {b : Bool} (h : (!b) = true) : b = false := by cases b <;> simp_all
theorem not_f {b : Bool} (h : (!b) = false) : b = true := by cases b <;> simp_all
def eqLs {α : Type} (f : α → α → Bool) : List α → List α → Bool
  | [], [] => true
  | x :: a, y :: b => bif f x y then eqLs f a b else false
  | _, _ => false
theorem eqLs_len {α : Type} {f : α → α → Bool} : ∀ {a b : List α}, a.length ≠ b.length → eqLs f a b = false
  | [], [], h => absurd rfl h
  | [], _ :: _, _ => rfl
  | _ :: _, [], _ => rfl
  | x :: a, y :: b, h => by
    show (bif f x y then eqLs f a b else false) = false
    rw [eqLs_len (a := a) (b := b) fun e => h (by simp [e])]
    cases f x y <;> rfl
theorem eqLs_refl {α : Type} {f : α → α → Bool} : ∀ {a : List α}, (∀ x ∈ a, f x x = true) → eqLs f a a = true
  | [], _ => rfl
  | x :: a, h => by
    show (bif f x x then eqLs f a a else false) = true
    rw [h x (List.mem_cons_self ..), eqLs_refl fun y hy => h y (List.mem_cons_of_mem _ hy)]
    rfl
theorem eqLs_ext {α : Type} {f g : α → α → Bool} (h : ∀ x y, f x y = g x y) : ∀ (a b : List α), eqLs f a b = eqLs g a b
  | [], [] => rfl
  | [], _ :: _ => rfl
  | _ :: _, [] => rfl
  | x :: a, y :: b => by
    show (bif f x y then eqLs f a b else false) = (bif g x y then eqLs g a b else false)
    rw [h, eqLs_ext h a b]
set_option maxRecDepth 100000 in
theorem sameEpoch43 (a b a' b' : Int) : Contract Tryz.prog G0 43 [epoV a b, epoV a' b'] [] (fun r t => r = .d (.bool (bif a == a' then b == b' else false)) ∧ t = []) := by
  refine run43 0 [] rfl rfl ?_
  conv => whnf
  exact ⟨rfl, rfl⟩
def sameC2 (x y : Int × Int) : Bool := bif x.1 == y.1 then x.2 == y.2 else false
set_option maxRecDepth 100000 in
theorem sameEntrys14 (a b : List En) (ha : a.length ≤ 4611686018427387904) (hb : ∀ e ∈ a, e.bids.length ≤ 4611686018427387904) : Contract Tryz.prog G0 14 [.d (.list 5 (rowsE a)), .d (.list 5 (rowsE b))] [] (fun r t => r = .d (.bool (eqLs sameE a b)) ∧ t = []) := by
  have hlen := rowsE_len a
  have hlen2 := rowsE_len b
  refine run14 0 [] rfl rfl ?_
  conv => whnf
  refine bcase_intro (fun h => ?_) (fun h => ?_) <;> conv => whnf
  · rw [hlen, hlen2] at h
    have h2 : a.length ≠ b.length := fun e => by rw [e] at h; simp at h
    exact ⟨rd_bool (eqLs_len h2).symm, rfl⟩
  have hab : a.length = b.length := by
    rw [hlen, hlen2] at h
    have : (a.length : Int) = (b.length : Int) := by simpa using h
    omega
  refine StopG.rounds wk14 [] [0, 1, 5] (fun m env s => ∃ i : Nat, i ≤ a.length ∧ m = a.length - i ∧ eqLs sameE a b = eqLs sameE (a.drop i) (b.drop i) ∧
    env = [(0, .d (.list 5 (rowsE a))), (1, .d (.list 5 (rowsE b))), (5, .d (.int .i64 (i : Int)))] ∧ s = []) rfl ?_ ?_
  · conv => whnf
    exact ⟨_, 0, Nat.zero_le _, rfl, rfl, rfl, rfl⟩
  rintro m env s ⟨i, hi, rfl, heq, rfl, rfl⟩
  conv => whnf
  refine bcase_intro (fun h => ?_) (fun h => ?_) <;> conv => whnf
  · have h := lt_of h
    rw [hlen] at h
    obtain ⟨x, hx, hdrop⟩ := at_i h
    obtain ⟨y, hy, hdrop2⟩ := at_i (l := b) (i := i) (by omega)
    rw [hdrop, hdrop2, eqLs] at heq
    refine ⟨rowE x, ⟨by omega, row_i hx⟩, ?_⟩
    conv => whnf
    refine ⟨rowE y, ⟨by omega, row_i hy⟩, ?_⟩
    conv => whnf
    refine .scal [entV x, entV y] _ ⟨.refl _, rfl, sameEntry x y (hb x (List.mem_of_getElem? hx))⟩ ?_
    conv => whnf
    refine bcase_intro (fun h2 => ?_) (fun h2 => ?_) <;> conv => whnf
    · have h2 : sameE x y = false := not_t h2
      rw [h2] at heq
      exact ⟨rd_bool heq.symm, rfl⟩
    · have h2 : sameE x y = true := not_f h2
      rw [h2] at heq
      rw [succ_i h ha]
      exact ⟨_, by omega, i + 1, h, rfl, heq, rfl, rfl⟩
  · have h := ge_of h
    rw [hlen] at h
    rw [List.drop_of_length_le h, List.drop_of_length_le (by omega)] at heq
    exact ⟨rd_bool heq.symm, rfl⟩
set_option maxRecDepth 100000 in
theorem sameCalls19 (a b : List (Int × Int)) (ha : a.length ≤ 4611686018427387904) : Contract Tryz.prog G0 19 [.d (.list 2 (rowsC a)), .d (.list 2 (rowsC b))] [] (fun r t => r = .d (.bool (eqLs sameC2 a b)) ∧ t = []) := by
  have hlen := rowsC_len a
  have hlen2 := rowsC_len b
  refine run19 0 [] rfl rfl ?_
  conv => whnf
  refine bcase_intro (fun h => ?_) (fun h => ?_) <;> conv => whnf
  · rw [hlen, hlen2] at h
    have h2 : a.length ≠ b.length := fun e => by rw [e] at h; simp at h
    exact ⟨rd_bool (eqLs_len h2).symm, rfl⟩
  have hab : a.length = b.length := by
    rw [hlen, hlen2] at h
    have : (a.length : Int) = (b.length : Int) := by simpa using h
    omega
  refine StopG.rounds wk19 [] [0, 1, 5] (fun m env s => ∃ i : Nat, i ≤ a.length ∧ m = a.length - i ∧ eqLs sameC2 a b = eqLs sameC2 (a.drop i) (b.drop i) ∧
    env = [(0, .d (.list 2 (rowsC a))), (1, .d (.list 2 (rowsC b))), (5, .d (.int .i64 (i : Int)))] ∧ s = []) rfl ?_ ?_
  · conv => whnf
    exact ⟨_, 0, Nat.zero_le _, rfl, rfl, rfl, rfl⟩
  rintro m env s ⟨i, hi, rfl, heq, rfl, rfl⟩
  conv => whnf
  refine bcase_intro (fun h => ?_) (fun h => ?_) <;> conv => whnf
  · have h := lt_of h
    rw [hlen] at h
    obtain ⟨x, hx, hdrop⟩ := at_i h
    obtain ⟨y, hy, hdrop2⟩ := at_i (l := b) (i := i) (by omega)
    rw [hdrop, hdrop2, eqLs] at heq
    refine ⟨rowC x, ⟨by omega, row_i hx⟩, ?_⟩
    conv => whnf
    refine ⟨rowC y, ⟨by omega, row_i hy⟩, ?_⟩
    conv => whnf
    refine .scal [calV x.1 x.2, calV y.1 y.2] _ ⟨.refl _, rfl, sameCall x.1 x.2 y.1 y.2⟩ ?_
    conv => whnf
    refine bcase_intro (fun h2 => ?_) (fun h2 => ?_) <;> conv => whnf
    · have h2 : sameC2 x y = false := not_t h2
      rw [h2] at heq
      exact ⟨rd_bool heq.symm, rfl⟩
    · have h2 : sameC2 x y = true := not_f h2
      rw [h2] at heq
      rw [succ_i h ha]
      exact ⟨_, by omega, i + 1, h, rfl, heq, rfl, rfl⟩
  · have h := ge_of h
    rw [hlen] at h
    rw [List.drop_of_length_le h, List.drop_of_length_le (by omega)] at heq
    exact ⟨rd_bool heq.symm, rfl⟩
set_option maxRecDepth 100000 in
theorem sameLatchs22 (a b : List (Int × Int × Int)) (ha : a.length ≤ 4611686018427387904) : Contract Tryz.prog G0 22 [.d (.list 3 (rowsK a)), .d (.list 3 (rowsK b))] [] (fun r t => r = .d (.bool (eqLs sameK a b)) ∧ t = []) := by
  have hlen := rowsK_len a
  have hlen2 := rowsK_len b
  refine run22 0 [] rfl rfl ?_
  conv => whnf
  refine bcase_intro (fun h => ?_) (fun h => ?_) <;> conv => whnf
  · rw [hlen, hlen2] at h
    have h2 : a.length ≠ b.length := fun e => by rw [e] at h; simp at h
    exact ⟨rd_bool (eqLs_len h2).symm, rfl⟩
  have hab : a.length = b.length := by
    rw [hlen, hlen2] at h
    have : (a.length : Int) = (b.length : Int) := by simpa using h
    omega
  refine StopG.rounds wk22 [] [0, 1, 5] (fun m env s => ∃ i : Nat, i ≤ a.length ∧ m = a.length - i ∧ eqLs sameK a b = eqLs sameK (a.drop i) (b.drop i) ∧
    env = [(0, .d (.list 3 (rowsK a))), (1, .d (.list 3 (rowsK b))), (5, .d (.int .i64 (i : Int)))] ∧ s = []) rfl ?_ ?_
  · conv => whnf
    exact ⟨_, 0, Nat.zero_le _, rfl, rfl, rfl, rfl⟩
  rintro m env s ⟨i, hi, rfl, heq, rfl, rfl⟩
  conv => whnf
  refine bcase_intro (fun h => ?_) (fun h => ?_) <;> conv => whnf
  · have h := lt_of h
    rw [hlen] at h
    obtain ⟨x, hx, hdrop⟩ := at_i h
    obtain ⟨y, hy, hdrop2⟩ := at_i (l := b) (i := i) (by omega)
    rw [hdrop, hdrop2, eqLs] at heq
    refine ⟨rowK x, ⟨by omega, row_i hx⟩, ?_⟩
    conv => whnf
    refine ⟨rowK y, ⟨by omega, row_i hy⟩, ?_⟩
    conv => whnf
    refine .scal [latV x.1 x.2.1 x.2.2, latV y.1 y.2.1 y.2.2] _ ⟨.refl _, rfl, sameLatch _ _ _ _ _ _⟩ ?_
    conv => whnf
    refine bcase_intro (fun h2 => ?_) (fun h2 => ?_) <;> conv => whnf
    · have h2 : sameK x y = false := not_t h2
      rw [h2] at heq
      exact ⟨rd_bool heq.symm, rfl⟩
    · have h2 : sameK x y = true := not_f h2
      rw [h2] at heq
      rw [succ_i h ha]
      exact ⟨_, by omega, i + 1, h, rfl, heq, rfl, rfl⟩
  · have h := ge_of h
    rw [hlen] at h
    rw [List.drop_of_length_le h, List.drop_of_length_le (by omega)] at heq
    exact ⟨rd_bool heq.symm, rfl⟩
set_option maxRecDepth 100000 in
theorem equalB (a b : List B) (ha : a.length ≤ 4611686018427387904) : Contract Tryz.prog G0 70 [.d (.list 2 (rowsB a)), .d (.list 2 (rowsB b))] [] (fun r t => r = .d (.bool (a == b)) ∧ t = []) := by
  have hlen := rowsB_len a
  have hlen2 := rowsB_len b
  refine run70 0 [] rfl rfl ?_
  conv => whnf
  refine bcase_intro (fun h => ?_) (fun h => ?_) <;> conv => whnf
  · rw [hlen, hlen2] at h
    refine ⟨rd_bool ?_, rfl⟩
    symm
    rw [beq_eq_false_iff_ne]
    rintro rfl
    simp at h
  have hab : a.length = b.length := by
    rw [hlen, hlen2] at h
    simp at h
    omega
  refine StopG.rounds wk70 [] [0, 1, 12, 13] (fun m env s => ∃ i : Nat, i ≤ a.length ∧ m = a.length - i ∧ a.take i = b.take i ∧
    env = [(0, .d (.list 2 (rowsB a))), (1, .d (.list 2 (rowsB b))), (12, .d (.int .i64 ((rowsB a).length : Int))), (13, .d (.int .i64 (i : Int)))] ∧ s = []) rfl ?_ ?_
  · conv => whnf
    exact ⟨_, 0, Nat.zero_le _, rfl, rfl, rfl, rfl⟩
  rintro m env s ⟨i, hi, rfl, heq, rfl, rfl⟩
  conv => whnf
  refine bcase_intro (fun h => ?_) (fun h => ?_) <;> conv => whnf
  · have h := lt_of h
    rw [hlen] at h
    obtain ⟨x, hx, hdrop⟩ := at_i h
    obtain ⟨y, hy, hdrop2⟩ := at_i (l := b) (i := i) (by omega)
    refine ⟨rowB x, ⟨by omega, row_i hx⟩, ?_⟩
    conv => whnf
    refine ⟨rowB y, ⟨by omega, row_i hy⟩, ?_⟩
    conv => whnf
    refine ⟨⟨by kernel_rfl, by kernel_rfl⟩, ?_⟩
    conv => whnf
    refine bcase_intro (fun h2 => ?_) (fun h2 => ?_) <;> conv => whnf
    · refine ⟨rd_bool ?_, rfl⟩
      symm
      rw [beq_eq_false_iff_ne]
      intro e
      subst e
      rw [hx] at hy
      cases hy
      have h2 : (!(bif x.1 == x.1 then x.2 == x.2 else false)) = true := h2
      simp at h2
    · rw [succ_i h ha]
      refine ⟨_, by omega, i + 1, h, rfl, ?_, rfl, rfl⟩
      have h2 : (!(bif x.1 == y.1 then x.2 == y.2 else false)) = false := h2
      have h3 : x = y := by
        cases h4 : x.1 == y.1 with
        | false => rw [h4] at h2; cases h2
        | true =>
          rw [h4] at h2
          have h2 : (!(x.2 == y.2)) = false := h2
          exact Prod.ext (by simpa using h4) (by simpa using h2)
      rw [List.take_add_one, List.take_add_one, heq, hx, hy, h3]
  · have h := ge_of h
    rw [hlen] at h
    refine ⟨rd_bool ?_, rfl⟩
    rw [List.take_of_length_le h, List.take_of_length_le (by omega)] at heq
    symm
    simp [heq]
def sameF (x y : En) : Bool := bif (bif (bif x.fl == y.fl then (bif x.dr == y.dr then x.gn == y.gn else false) else false) then x.aw == y.aw else false) then x.bids == y.bids else false
theorem sameF_eq (x y : En) : sameF x y = sameE x y := by
  unfold sameF sameE
  cases x.fl == y.fl <;> cases x.dr == y.dr <;> cases x.gn == y.gn <;> cases x.aw == y.aw <;> cases x.bids == y.bids <;> rfl
set_option maxRecDepth 100000 in
theorem same69 (x y : En) (hx : x.bids.length ≤ 4611686018427387904) : Contract Tryz.prog G0 69 [entV x, entV y] [] (fun r t => r = .d (.bool (sameF x y)) ∧ t = []) := by
  refine run69 0 [] rfl rfl ?_
  conv => whnf
  refine ⟨⟨by kernel_rfl, by kernel_rfl⟩, ?_⟩
  conv => whnf
  refine .scal [.d (.list 2 (rowsB x.bids)), .d (.list 2 (rowsB y.bids))] _ (fun _ => ⟨.refl _, rfl, equalB x.bids y.bids hx⟩) ?_
  conv => whnf
  exact ⟨rfl, rfl⟩
set_option maxRecDepth 100000 in
theorem equalF (a b : List En) (ha : a.length ≤ 4611686018427387904) (hb : ∀ e ∈ a, e.bids.length ≤ 4611686018427387904) : Contract Tryz.prog G0 68 [.d (.list 5 (rowsE a)), .d (.list 5 (rowsE b)), .fn 69 []] [] (fun r t => r = .d (.bool (eqLs sameF a b)) ∧ t = []) := by
  have hlen := rowsE_len a
  have hlen2 := rowsE_len b
  refine run68 0 [] rfl rfl ?_
  conv => whnf
  refine bcase_intro (fun h => ?_) (fun h => ?_) <;> conv => whnf
  · rw [hlen, hlen2] at h
    have h2 : a.length ≠ b.length := fun e => by rw [e] at h; simp at h
    exact ⟨rd_bool (eqLs_len h2).symm, rfl⟩
  have hab : a.length = b.length := by
    rw [hlen, hlen2] at h
    have : (a.length : Int) = (b.length : Int) := by simpa using h
    omega
  refine StopG.rounds wk68 [] [1, 2, 15, 16, 17] (fun m env s => ∃ i : Nat, i ≤ a.length ∧ m = a.length - i ∧ eqLs sameF a b = eqLs sameF (a.drop i) (b.drop i) ∧
    env = [(1, .d (.list 5 (rowsE b))), (2, .fn 69 []), (15, .d (.list 5 (rowsE a))), (16, .d (.int .i64 ((rowsE a).length : Int))), (17, .d (.int .i64 (i : Int)))] ∧ s = []) rfl ?_ ?_
  · conv => whnf
    exact ⟨_, 0, Nat.zero_le _, rfl, rfl, rfl, rfl⟩
  rintro m env s ⟨i, hi, rfl, heq, rfl, rfl⟩
  conv => whnf
  refine bcase_intro (fun h => ?_) (fun h => ?_) <;> conv => whnf
  · have h := lt_of h
    rw [hlen] at h
    obtain ⟨x, hx, hdrop⟩ := at_i h
    obtain ⟨y, hy, hdrop2⟩ := at_i (l := b) (i := i) (by omega)
    rw [hdrop, hdrop2, eqLs] at heq
    refine ⟨rowE x, ⟨by omega, row_i hx⟩, ?_⟩
    conv => whnf
    refine ⟨rowE y, ⟨by omega, row_i hy⟩, ?_⟩
    conv => whnf
    refine .scal [entV x, entV y] _ ⟨.refl _, rfl, same69 x y (hb x (List.mem_of_getElem? hx))⟩ ?_
    conv => whnf
    refine bcase_intro (fun h2 => ?_) (fun h2 => ?_) <;> conv => whnf
    · have h2 : sameF x y = false := not_t h2
      rw [h2] at heq
      exact ⟨rd_bool heq.symm, rfl⟩
    · have h2 : sameF x y = true := not_f h2
      rw [h2] at heq
      rw [succ_i h ha]
      exact ⟨_, by omega, i + 1, h, rfl, heq, rfl, rfl⟩
  · have h := ge_of h
    rw [hlen] at h
    rw [List.drop_of_length_le h, List.drop_of_length_le (by omega)] at heq
    exact ⟨rd_bool heq.symm, rfl⟩
/-- Rings the same. -/
def sameR (cnt fdr hop : Int) (mem : List Int) (l : List En) (cnt' fdr' hop' : Int) (mem' : List Int) (l' : List En) : Bool :=
  bif (bif (bif (bif cnt == cnt' then fdr == fdr' else false) then hop == hop' else false) then mem == mem' else false) then eqLs sameE l l' else false
theorem sameR_refl (cnt fdr hop : Int) (mem : List Int) (l : List En) : sameR cnt fdr hop mem l cnt fdr hop mem l = true := by
  unfold sameR
  rw [eqLs_refl fun x _ => sameE_refl x]
  simp
set_option maxRecDepth 100000 in
theorem sameRing (cnt fdr hop : Int) (mem : List Int) (l : List En) (cnt' fdr' hop' : Int) (mem' : List Int) (l' : List En) (hm : mem.length ≤ 4611686018427387904) (ha : l.length ≤ 4611686018427387904) (hb : ∀ e ∈ l, e.bids.length ≤ 4611686018427387904) :
    Contract Tryz.prog G0 13 [awG cnt fdr hop mem l, awG cnt' fdr' hop' mem' l'] [] (fun r t => r = .d (.bool (sameR cnt fdr hop mem l cnt' fdr' hop' mem' l')) ∧ t = []) := by
  refine run13 0 [] rfl rfl ?_
  conv => whnf
  refine .scal [epoV cnt fdr, epoV cnt' fdr'] _ ⟨.refl _, rfl, sameEpoch43 _ _ _ _⟩ ?_
  conv => whnf
  refine .scal [.d (.list 1 (rowsI mem)), .d (.list 1 (rowsI mem'))] _ (fun _ => ⟨.refl _, rfl, sameInts34 mem mem' hm⟩) ?_
  conv => whnf
  refine .scal [.d (.list 5 (rowsE l)), .d (.list 5 (rowsE l'))] _ (fun _ => ⟨.refl _, rfl, sameEntrys14 l l' ha hb⟩) ?_
  conv => whnf
  exact ⟨rfl, rfl⟩
set_option maxRecDepth 100000 in
theorem same27 (cnt fdr hop : Int) (mem : List Int) (l : List En) (cnt' fdr' hop' : Int) (mem' : List Int) (l' : List En) (hm : mem.length ≤ 4611686018427387904) (ha : l.length ≤ 4611686018427387904) (hb : ∀ e ∈ l, e.bids.length ≤ 4611686018427387904) :
    Contract Tryz.prog G0 27 [awG cnt fdr hop mem l, awG cnt' fdr' hop' mem' l'] [] (fun r t => r = .d (.bool (sameR cnt fdr hop mem l cnt' fdr' hop' mem' l')) ∧ t = []) := by
  refine run27 0 [] rfl rfl ?_
  conv => whnf
  refine ⟨⟨by kernel_rfl, by kernel_rfl⟩, ?_⟩
  conv => whnf
  refine .scal [.d (.list 1 (rowsI mem)), .d (.list 1 (rowsI mem'))] _ (fun _ => ⟨.refl _, rfl, equal mem mem' hm⟩) ?_
  conv => whnf
  refine .scal [.d (.list 5 (rowsE l)), .d (.list 5 (rowsE l')), .fn 69 []] _ (fun _ => ⟨.refl _, rfl, equalF l l' ha hb⟩) ?_
  conv => whnf
  refine ⟨rd_bool ?_, rfl⟩
  unfold sameR
  rw [eqLs_ext sameF_eq]
  rfl
set_option maxRecDepth 100000 in
theorem less87 (a b : B) : Contract Tryz.prog G0 87 [bidv a, bidv b] [] (fun r t => r = .d (.bool (lessB a b)) ∧ t = []) := by
  refine run87 0 [] rfl rfl ?_
  conv => whnf
  refine ⟨rd_bool ?_, rfl⟩
  simp only [bif_or, bif_and, lessB]
end Go.Proofs.YtkenimmellonjaaGreat
/- Seat Z: the reference's copies and bids. -/
namespace Go.Proofs.YtkenimmellonjaaGreat
open Go.Pv Go.RowKit Go.Shelf
set_option maxRecDepth 100000 in
theorem bids74 (l : List B) (hl : l.length ≤ 100000) : Contract Tryz.prog G0 74 [.d (.list 2 (rowsB l))] [] (fun r t => ∃ c, l.length ≤ c ∧ r = .slc (.g 0) 2 0 l.length c ∧ t = [(0, .row 2 (rowsB l))]) := by
  have hlen := rowsB_len l
  refine run74 0 [] rfl rfl ?_
  conv => whnf
  refine ⟨0, l.length, ⟨rfl, by rw [hlen], Nat.zero_le _, by show l.length * 16 ≤ _; omega, by omega⟩, ?_⟩
  conv => whnf
  refine StopG.rounds wk74 [] [0, 3, 4] (fun m env s => ∃ i c : Nat, i ≤ l.length ∧ m = l.length - i ∧ i ≤ c ∧
    env = [(0, .d (.list 2 (rowsB l))), (3, .slc (.g 0) 2 0 i c), (4, .d (.int .i64 (i : Int)))] ∧ s = [(0, .row 2 (rowsB (l.take i)))]) rfl ?_ ?_
  · conv => whnf
    exact ⟨_, 0, l.length, Nat.zero_le _, rfl, Nat.zero_le _, rfl, rfl⟩
  rintro m env s ⟨i, c, hi, rfl, hic, rfl, rfl⟩
  conv => whnf
  refine bcase_intro (fun h => ?_) (fun h => ?_) <;> conv => whnf
  · have h := lt_of h
    rw [hlen] at h
    obtain ⟨x, hx, hdrop⟩ := at_i h
    refine ⟨rowB x, ⟨by omega, row_i hx⟩, ?_⟩
    conv => whnf
    have htl := rowsB_len (l.take i)
    rw [List.length_take] at htl
    refine ⟨by omega, ⟨?_, ?_⟩, ?_⟩
    · show (2 * (i + 1) + 1024) * 16 ≤ 281474976710656; omega
    · show i + 1 ≤ _; omega
    conv => whnf
    intro c2 hc2
    conv => whnf
    rw [succ_i h (by omega)]
    refine ⟨_, by omega, i + 1, c2, h, rfl, hc2, rfl, ?_⟩
    refine congrArg (fun q => [(0, AB.row 2 q)]) ?_
    rw [List.take_of_length_le (by omega), List.take_add_one, hx]
    simp [rowsB, rowB]
  · have h := ge_of h
    rw [hlen] at h
    have : i = l.length := by omega
    subst this
    refine ⟨c, hic, rfl, ?_⟩
    rw [List.take_of_length_le (Nat.le_refl _)]
set_option maxRecDepth 100000 in
theorem latchs60 (l : List (Int × Int × Int)) (hl : l.length ≤ 100000) : Contract Tryz.prog G0 60 [.d (.list 3 (rowsK l))] [] (fun r t => ∃ c, l.length ≤ c ∧ r = .slc (.g 0) 3 0 l.length c ∧ t = [(0, .row 3 (rowsK l))]) := by
  have hlen := rowsK_len l
  refine run60 0 [] rfl rfl ?_
  conv => whnf
  refine ⟨0, l.length, ⟨rfl, by rw [hlen], Nat.zero_le _, by show l.length * 24 ≤ _; omega, by omega⟩, ?_⟩
  conv => whnf
  refine StopG.rounds wk60 [] [0, 3, 4] (fun m env s => ∃ i c : Nat, i ≤ l.length ∧ m = l.length - i ∧ i ≤ c ∧
    env = [(0, .d (.list 3 (rowsK l))), (3, .slc (.g 0) 3 0 i c), (4, .d (.int .i64 (i : Int)))] ∧ s = [(0, .row 3 (rowsK (l.take i)))]) rfl ?_ ?_
  · conv => whnf
    exact ⟨_, 0, l.length, Nat.zero_le _, rfl, Nat.zero_le _, rfl, rfl⟩
  rintro m env s ⟨i, c, hi, rfl, hic, rfl, rfl⟩
  conv => whnf
  refine bcase_intro (fun h => ?_) (fun h => ?_) <;> conv => whnf
  · have h := lt_of h
    rw [hlen] at h
    obtain ⟨x, hx, hdrop⟩ := at_i h
    refine ⟨rowK x, ⟨by omega, row_i hx⟩, ?_⟩
    conv => whnf
    have htl := rowsK_len (l.take i)
    rw [List.length_take] at htl
    refine ⟨by omega, ⟨?_, ?_⟩, ?_⟩
    · show (2 * (i + 1) + 1024) * 24 ≤ 281474976710656; omega
    · show i + 1 ≤ _; omega
    conv => whnf
    intro c2 hc2
    conv => whnf
    rw [succ_i h (by omega)]
    refine ⟨_, by omega, i + 1, c2, h, rfl, hc2, rfl, ?_⟩
    refine congrArg (fun q => [(0, AB.row 3 q)]) ?_
    rw [List.take_of_length_le (by omega), List.take_add_one, hx]
    simp [rowsK, rowK]
  · have h := ge_of h
    rw [hlen] at h
    have : i = l.length := by omega
    subst this
    refine ⟨c, hic, rfl, ?_⟩
    rw [List.take_of_length_le (Nat.le_refl _)]
theorem bids74D (l : List B) (hl : l.length ≤ 100000) : Contract Tryz.prog G0 74 [.d (.list 2 (rowsB l))] [] (fun r t => r = .d (.list 2 (rowsB l)) ∧ t = []) := by
  refine (bids74 l hl).told fun r t hr => ?_
  obtain ⟨c, hc, rfl, rfl⟩ := hr
  refine ⟨.d (.list 2 (rowsB l)), ?_, rfl, rfl, rfl⟩
  have hrl := rowsB_len l
  refine GV.trans (GV.freeze 0 rfl (by simp) (by repeat' first | exact trivial | apply And.intro | decide | (simp; done) | (simp; omega) | omega) (by repeat' first | exact trivial | apply And.intro)) (GV.tidied [0] ?_)
  conv => whnf
  rw [List.drop_zero, List.take_of_length_le (by omega)]
  exact ⟨rfl, rfl⟩
set_option maxRecDepth 100000 in
theorem find63 (l : List B) (hl : l.length ≤ 100000) (car : Int) : Contract Tryz.prog G0 63 [.d (.list 2 (rowsB l)), .d (.int .i64 car)] [] (fun r t => r = .d (.int .i64 (idxFrom (fun b => b.1 == car) l 0)) ∧ t = []) := by
  have hlen := rowsB_len l
  refine run63 0 [] rfl rfl ?_
  conv => whnf
  refine StopG.rounds wk63 [] [0, 1, 5] (fun m env s => ∃ i : Nat, i ≤ l.length ∧ m = l.length - i ∧ idxFrom (fun b => b.1 == car) (l.drop i) i = idxFrom (fun b => b.1 == car) l 0 ∧
    env = [(0, .d (.list 2 (rowsB l))), (1, .d (.int .i64 car)), (5, .d (.int .i64 (i : Int)))] ∧ s = []) rfl ?_ ?_
  · conv => whnf
    exact ⟨_, 0, Nat.zero_le _, rfl, rfl, rfl, rfl⟩
  rintro m env s ⟨i, hi, rfl, hidx, rfl, rfl⟩
  conv => whnf
  refine bcase_intro (fun h => ?_) (fun h => ?_) <;> conv => whnf
  · have h := lt_of h
    rw [hlen] at h
    obtain ⟨x, hx, hdrop⟩ := at_i h
    refine ⟨rowB x, ⟨by omega, row_i hx⟩, ?_⟩
    conv => whnf
    rw [hdrop, idxFrom] at hidx
    refine bcase_intro (fun h2 => ?_) (fun h2 => ?_) <;> conv => whnf
    · rw [if_pos h2] at hidx
      exact ⟨rd_int hidx, rfl⟩
    · rw [if_neg (by simp [h2])] at hidx
      rw [succ_i h (by omega)]
      exact ⟨_, by omega, i + 1, h, rfl, hidx, rfl, rfl⟩
  · have h := ge_of h
    rw [hlen] at h
    rw [List.drop_eq_nil_of_le h, idxFrom] at hidx
    exact ⟨rd_int hidx, rfl⟩
set_option maxRecDepth 100000 in
theorem place35 (cnt fdr hop : Int) (mem : List Int) (l : List En) (hl : l.length ≤ 100000) (a b : Int) : Contract Tryz.prog G0 35 [awG cnt fdr hop mem l, calV a b] [] (fun r t => r = .d (.int .i64 (idxFrom (isC (a, b)) l 0)) ∧ t = []) := by
  have hlen := rowsE_len l
  refine run35 0 [] rfl rfl ?_
  conv => whnf
  refine StopG.rounds wk35 [] [2, 3, 5] (fun m env s => ∃ i : Nat, i ≤ l.length ∧ m = l.length - i ∧ idxFrom (isC (a, b)) (l.drop i) i = idxFrom (isC (a, b)) l 0 ∧
    env = [(2, .ref (.g 0) 0), (3, .ref (.g 1) 0), (5, .d (.int .i64 (i : Int)))] ∧ s = [(0, .cells [.d (.int .i64 cnt), .d (.int .i64 fdr), .d (.int .i64 hop), .d (.list 1 (rowsI mem)), .d (.list 5 (rowsE l))]), (1, .cells [.d (.int .i64 a), .d (.int .i64 b)])]) rfl ?_ ?_
  · conv => whnf
    exact ⟨_, 0, Nat.zero_le _, rfl, rfl, rfl, rfl⟩
  rintro m env s ⟨i, hi, rfl, hidx, rfl, rfl⟩
  conv => whnf
  refine bcase_intro (fun h => ?_) (fun h => ?_) <;> conv => whnf
  · have h := lt_of h
    rw [hlen] at h
    obtain ⟨x, hx, hdrop⟩ := at_i h
    refine ⟨rowE x, ⟨by omega, row_i hx⟩, ?_⟩
    conv => whnf
    refine .scal [calV x.fl x.dr, calV a b] _ ⟨.refl _, rfl, sameCall x.fl x.dr a b⟩ ?_
    conv => whnf
    rw [hdrop, idxFrom] at hidx
    refine bcase_intro (fun h2 => ?_) (fun h2 => ?_) <;> conv => whnf
    · have h2 : isC (a, b) x = true := h2
      rw [if_pos h2] at hidx
      exact ⟨rd_int hidx, rfl⟩
    · have h2 : isC (a, b) x = false := h2
      rw [if_neg (by rw [h2]; decide)] at hidx
      rw [succ_i h (by omega)]
      exact ⟨_, by omega, i + 1, h, rfl, hidx, rfl, rfl⟩
  · have h := ge_of h
    rw [hlen] at h
    rw [List.drop_eq_nil_of_le h, idxFrom] at hidx
    exact ⟨rd_int hidx, rfl⟩
set_option maxRecDepth 100000 in
theorem full41 (ms : List Int) (hm : ms.length ≤ 100000) (l : List B) (hl : l.length ≤ 100000) : Contract Tryz.prog G0 41 [.d (.list 1 (rowsI ms)), .d (.list 2 (rowsB l))] [] (fun r t => r = .d (.bool (fullB ms l)) ∧ t = []) := by
  have hlen := rowsI_len ms
  refine run41 0 [] rfl rfl ?_
  conv => whnf
  refine StopG.rounds wk41 [] [0, 1, 5] (fun m env s => ∃ i : Nat, i ≤ ms.length ∧ m = ms.length - i ∧ fullB (ms.drop i) l = fullB ms l ∧
    env = [(0, .d (.list 1 (rowsI ms))), (1, .d (.list 2 (rowsB l))), (5, .d (.int .i64 (i : Int)))] ∧ s = []) rfl ?_ ?_
  · conv => whnf
    exact ⟨_, 0, Nat.zero_le _, rfl, rfl, rfl, rfl⟩
  rintro m env s ⟨i, hi, rfl, hf, rfl, rfl⟩
  conv => whnf
  refine bcase_intro (fun h => ?_) (fun h => ?_) <;> conv => whnf
  · have h := lt_of h
    rw [hlen] at h
    obtain ⟨x, hx, hdrop⟩ := at_i h
    refine ⟨rowI x, ⟨by omega, row_i hx⟩, ?_⟩
    conv => whnf
    refine .scal [.d (.list 2 (rowsB l)), .d (.int .i64 x)] _ ⟨.refl _, rfl, find63 l hl x⟩ ?_
    conv => whnf
    have hany := idx_any (fun b : B => b.1 == x) l
    rw [hdrop] at hf
    unfold fullB at hf
    rw [List.any_cons] at hf
    refine bcase_intro (fun h2 => ?_) (fun h2 => ?_) <;> conv => whnf
    · obtain ⟨h3, _⟩ := idx_lt' h2
      rw [h3] at hany
      have hany : (l.any fun b => b.1 == x) = false := by rw [← hany]; rfl
      rw [hany] at hf
      exact ⟨rd_bool hf, rfl⟩
    · obtain ⟨k, y, h3, _, _⟩ := idx_ge' h2
      rw [h3] at hany
      have hany : (l.any fun b => b.1 == x) = true := by rw [← hany]; exact decide_eq_true (by omega)
      rw [hany] at hf
      rw [succ_i h (by omega)]
      exact ⟨_, by omega, i + 1, h, rfl, hf, rfl, rfl⟩
  · have h := ge_of h
    rw [hlen] at h
    rw [List.drop_eq_nil_of_le h] at hf
    exact ⟨rd_bool hf, rfl⟩
/-- The place of the least. -/
def leastK (l : List B) (k : Nat) : List B → Nat
  | [] => k
  | b :: r => leastK l (if lessB b ((l[k]?).getD (0, 0)) then l.length - (r.length + 1) else k) r
theorem leastK_ok (l : List B) : ∀ (r : List B) (k : Nat) (x : B), l[k]? = some x → r.length ≤ l.length → l.drop (l.length - r.length) = r → ∃ y, l[leastK l k r]? = some y ∧ y = leastFrom x r
  | [], k, x, hk, _, _ => ⟨x, hk, rfl⟩
  | b :: r, k, x, hk, hl, hd => by
    rw [List.length_cons] at hl hd
    obtain ⟨z, hz, hd2⟩ := at_i (l := l) (i := l.length - (r.length + 1)) (by omega)
    rw [hd] at hd2
    injection hd2 with e1 e2
    subst e1
    have hr : l.drop (l.length - r.length) = r := by rw [show l.length - r.length = l.length - (r.length + 1) + 1 by omega]; exact e2.symm
    show ∃ y, l[leastK l (if lessB b ((l[k]?).getD (0, 0)) then l.length - (r.length + 1) else k) r]? = some y ∧ y = leastFrom (if lessB b x then b else x) r
    rw [hk]
    show ∃ y, l[leastK l (if lessB b x then l.length - (r.length + 1) else k) r]? = some y ∧ y = leastFrom (if lessB b x then b else x) r
    cases lessB b x with
    | true => exact leastK_ok l r _ b hz (by omega) hr
    | false => exact leastK_ok l r _ x hk (by omega) hr
set_option maxRecDepth 100000 in
theorem least42_nil : Contract Tryz.prog G0 42 [.d (.list 2 (rowsB []))] [] (fun r t => r = .d (.int .i64 (-1)) ∧ t = []) := by
  refine run42 0 [] rfl rfl ?_
  conv => whnf
  refine StopG.rounds wk42 [] [0, 3, 4] (fun m env s => m = 0 ∧ env = [(0, .d (.list 2 (rowsB []))), (3, .d (.int .i64 (-1))), (4, .d (.int .i64 0))] ∧ s = []) rfl ?_ ?_
  · conv => whnf
    exact ⟨_, rfl, rfl, rfl⟩
  rintro m env s ⟨rfl, rfl, rfl⟩
  conv => whnf
  exact ⟨rfl, rfl⟩
set_option maxRecDepth 100000 in
theorem least42_cons (b0 : B) (r0 : List B) (hl : r0.length + 1 ≤ 100000) : Contract Tryz.prog G0 42 [.d (.list 2 (rowsB (b0 :: r0)))] [] (fun r t => r = .d (.int .i64 (leastK (b0 :: r0) 0 r0 : Int)) ∧ t = []) := by
  generalize hb : b0 :: r0 = l
  have hll : l.length = r0.length + 1 := by rw [← hb]; rfl
  have hlen := rowsB_len l
  refine run42 0 [] rfl rfl ?_
  conv => whnf
  refine StopG.rounds wk42 [] [0, 3, 4] (fun m env s => ∃ i : Nat, i ≤ l.length ∧ m = l.length - i ∧ ∃ z : Int, env = [(0, .d (.list 2 (rowsB l))), (3, .d (.int .i64 z)), (4, .d (.int .i64 (i : Int)))] ∧ s = [] ∧
    ((i = 0 ∧ z = -1) ∨ ∃ k : Nat, 0 < i ∧ k < l.length ∧ z = (k : Int) ∧ leastK l k (l.drop i) = leastK l 0 r0)) rfl ?_ ?_
  · conv => whnf
    exact ⟨_, 0, Nat.zero_le _, rfl, _, rfl, rfl, .inl ⟨rfl, rfl⟩⟩
  rintro m env s ⟨i, hi, rfl, z, rfl, rfl, hz⟩
  conv => whnf
  refine bcase_intro (fun h => ?_) (fun h => ?_) <;> conv => whnf
  · have hil := lt_of h
    rw [hlen] at hil
    obtain ⟨x, hx, hdrop⟩ := at_i hil
    rcases hz with ⟨rfl, rfl⟩ | ⟨k, hi0, hk, rfl, hlk⟩
    · refine ⟨rowB x, (fun hg => by simp [HG, lit, rfind] at hg), ?_⟩
      conv => whnf
      refine ⟨rowB x, (fun hg => by simp [HG, lit, rfind] at hg), ?_⟩
      conv => whnf
      refine .scal [bidv x, bidv x] _ (fun _ => ⟨.refl _, rfl, less87 x x⟩) ?_
      conv => whnf
      rw [succ_i hil (by omega)]
      refine ⟨_, by omega, 0 + 1, hil, rfl, _, rfl, rfl, .inr ⟨0, by omega, by omega, rfl, ?_⟩⟩
      rw [← hb]; rfl
    · obtain ⟨y, hy, _⟩ := at_i hk
      rw [show decide ((k : Int) < 0) = false from decide_eq_false (by omega)]
      refine ⟨rowB x, (fun _ => ⟨by omega, row_i hx⟩), ?_⟩
      conv => whnf
      refine ⟨rowB y, (fun _ => ⟨by omega, row_i hy⟩), ?_⟩
      conv => whnf
      refine .scal [bidv x, bidv y] _ (fun _ => ⟨.refl _, rfl, less87 x y⟩) ?_
      conv => whnf
      rw [hdrop, leastK, hy] at hlk
      have hdl : (l.drop (i + 1)).length = l.length - (i + 1) := List.length_drop ..
      have hlk : leastK l (if lessB x y then l.length - ((l.drop (i + 1)).length + 1) else k) (l.drop (i + 1)) = leastK l 0 r0 := hlk
      rw [hdl, show l.length - (l.length - (i + 1) + 1) = i by omega] at hlk
      refine bcase_intro (fun h2 => ?_) (fun h2 => ?_) <;> conv => whnf
      · have h2 : lessB x y = true := h2
        rw [if_pos h2] at hlk
        rw [succ_i hil (by omega)]
        exact ⟨_, by omega, i + 1, hil, rfl, _, rfl, rfl, .inr ⟨i, by omega, hil, rfl, hlk⟩⟩
      · have h2 : lessB x y = false := h2
        rw [if_neg (by rw [h2]; decide)] at hlk
        rw [succ_i hil (by omega)]
        exact ⟨_, by omega, i + 1, hil, rfl, _, rfl, rfl, .inr ⟨k, by omega, hk, rfl, hlk⟩⟩
  · have hil := ge_of h
    rw [hlen] at hil
    rcases hz with ⟨rfl, rfl⟩ | ⟨k, _, _, rfl, hlk⟩
    · omega
    · rw [show l.drop i = [] from List.drop_of_length_le hil] at hlk
      exact ⟨rd_int (by rw [← hlk]; rfl), rfl⟩
end Go.Proofs.YtkenimmellonjaaGreat
/- Seat Z: the reference puts a bid; copies of rings. -/
namespace Go.Proofs.YtkenimmellonjaaGreat
open Go.Pv Go.RowKit Go.Shelf
def leN (l : List B) (b : B) : Nat := (l.takeWhile fun x => decide (x.1 ≤ b.1)).length
theorem leN_le (l : List B) (b : B) : leN l b ≤ l.length := (List.takeWhile_sublist _).length_le
theorem leN_cons (x : B) (l : List B) (b : B) : leN (x :: l) b = if x.1 ≤ b.1 then leN l b + 1 else 0 := by
  unfold leN
  rw [List.takeWhile_cons]
  split <;> simp_all
theorem leN_eq {b : B} : ∀ {l : List B} {k : Nat}, (∀ e ∈ l.take k, e.1 ≤ b.1) → k ≤ l.length → (∀ x, l[k]? = some x → ¬ x.1 ≤ b.1) → leN l b = k
  | [], k, _, hk, _ => by
    have : k = 0 := by simpa using hk
    subst this
    rfl
  | x :: r, 0, _, _, h => by
    rw [leN_cons, if_neg (h x rfl)]
  | x :: r, k + 1, h1, hk, h => by
    rw [leN_cons, if_pos (h1 x (List.mem_cons_self ..)), leN_eq (k := k) (fun e he => h1 e (List.mem_cons_of_mem _ he)) (by simpa using hk) fun y hy => h y hy]
theorem insB_tw (l : List B) (b : B) : insB l b = l.take (leN l b) ++ b :: l.drop (leN l b) := by
  unfold insB
  rcases idx_cases0 (fun x : B => decide (x.1 > b.1)) l with ⟨h1, hno⟩ | ⟨k, x, h1, hx, hfd⟩
  · rw [h1]
    have hall : ∀ e ∈ l, e.1 ≤ b.1 := fun e he => by
      have := (List.find?_eq_none.1 hno) e he
      have : ¬ e.1 > b.1 := by simpa using this
      omega
    have hk : leN l b = l.length := leN_eq (fun e he => hall e (List.mem_of_mem_take he)) (Nat.le_refl _) fun x hx => by rw [List.getElem?_eq_none (Nat.le_refl _)] at hx; cases hx
    rw [hk, List.take_length, List.drop_length]
    rfl
  · rw [h1]
    have hkl := (List.getElem?_eq_some_iff.1 hx).1
    have hp : x.1 > b.1 := by simpa using List.find?_some hfd
    have hk : leN l b = k := by
      refine leN_eq (fun e he => ?_) (by omega) fun y hy => ?_
      · have := idx_before (p := fun x : B => decide (x.1 > b.1)) l 0 k (by rw [h1]; omega) e he
        have := of_decide_eq_false this
        omega
      · rw [hx] at hy
        cases hy
        omega
    rw [hk]
set_option maxRecDepth 100000 in
theorem put37 (l : List B) (b : B) (hl : l.length ≤ 10000) : Contract Tryz.prog G0 37 [.d (.list 2 (rowsB l)), bidv b] [] (fun r t => r = .tup [.d (.list 2 (rowsB (putB l b).1)), .d (.bool (putB l b).2)] ∧ t = []) := by
  have hlen := rowsB_len l
  refine rung37 0 [6] rfl rfl ?_
  conv => whnf
  refine .scal [.d (.list 2 (rowsB l)), .d (.int .i64 b.1)] _ ⟨.refl _, rfl, find63 l (by omega) b.1⟩ ?_
  conv => whnf
  refine bcase_intro (fun h => ?_) (fun h => ?_) <;> conv => whnf
  · obtain ⟨k, x, h1, h2, h3⟩ := idx_ge h
    refine .data [.d (.list 2 (rowsB l))] _ ⟨WkL.refl _, rfl, bids74D l (by omega)⟩ ?_
    conv => whnf
    refine ⟨_, _, .refl, ?_⟩
    conv => whnf
    have hp : putB l b = (l, false) := by simp only [putB, h3]
    rw [hp]
    exact ⟨rfl, rfl⟩
  obtain ⟨h1, h2⟩ := idx_lt h
  have hp : putB l b = (insB l b, true) := by simp only [putB, h2]
  rw [hp, insB_tw]
  clear hp h1 h2 h
  refine StopG.rounds wk37 [6] [0, 3, 6] (fun m env s => ∃ i : Nat, i ≤ l.length ∧ m = l.length - i ∧ i + leN (l.drop i) b = leN l b ∧
    env = [(0, .d (.list 2 (rowsB l))), (3, .ref (.g 0) 0), (6, .d (.int .i64 (i : Int)))] ∧ s = [(0, .cells [.d (.int .i64 b.1), .d (.int .i64 b.2)])]) rfl ?_ ?_
  · conv => whnf
    exact ⟨_, 0, Nat.zero_le _, rfl, by simp, rfl, rfl⟩
  rintro m env s ⟨i, hi, rfl, heq, rfl, rfl⟩
  conv => whnf
  obtain ⟨x, hx⟩ : ∃ y : B, y = (l[i]?).getD (0, 0) := ⟨_, rfl⟩
  have hx2 : i < l.length → l[i]? = .some x := fun h0 => by rw [hx, List.getElem?_eq_getElem h0]; rfl
  refine ⟨rowB x, fun hg => ?_, ?_⟩
  · have h0 := lt_of (show decide ((i : Int) < ((rowsB l).length : Int)) = true from hg)
    rw [hlen] at h0
    exact ⟨by omega, row_i (hx2 h0)⟩
  conv => whnf
  refine bcase_intro (fun h => ?_) (fun h => ?_) <;> conv => whnf
  · rw [bif_and, Bool.and_eq_true] at h
    obtain ⟨h, h2⟩ := h
    have h := lt_of h
    rw [hlen] at h
    have h2 := of_decide_eq_true h2
    obtain ⟨y, hy, hdrop⟩ := at_i h
    rw [hx2 h] at hy
    cases hy
    rw [hdrop, leN_cons, if_pos h2] at heq
    rw [succ_i h (by omega)]
    exact ⟨_, by omega, i + 1, h, rfl, by omega, rfl, rfl⟩
  · have hk : i = leN l b := by
      rcases Nat.lt_or_ge i l.length with h1 | h1
      · obtain ⟨y, hy, hdrop⟩ := at_i h1
        rw [hx2 h1] at hy
        cases hy
        rw [hdrop, leN_cons] at heq
        have h2 : ¬ x.1 ≤ b.1 := by
          intro h2
          rw [hlen, decide_eq_true (show (i : Int) < (l.length : Int) by omega), decide_eq_true h2] at h
          cases h
        rw [if_neg h2] at heq
        omega
      · rw [List.drop_eq_nil_of_le h1] at heq
        simpa [leN] using heq
    clear heq h
    rw [← hk]
    have e1 : List.drop (Int.toNat 0) (List.take ((i : Int)).toNat (rowsB l)) = rowsB (l.take i) := by simp [rowsB, List.map_take]
    have e2 : (l.take i).length = i := by rw [List.length_take]; omega
    have hin := bids74 (l.take i) (by omega)
    have e3 := rowsB_len (l.take i)
    rw [e2] at hin e3
    have e6 : List.take i (rowsB (l.take i)) ++ [rowB b] = rowsB (l.take i ++ [b]) := by
      rw [List.take_of_length_le (by omega)]
      simp [rowsB]
    have hrow : [(0, AB.row 2 (List.take i (rowsB (l.take i)) ++ [rowB b]))] = [(0, AB.row 2 (rowsB (l.take i ++ [b])))] := by rw [e6]
    refine StopG.draw wk37 [] sp37_6 [0, 6, 7] (fun env s => ∃ c2, i + 1 ≤ c2 ∧ env = [(0, .d (.list 2 (rowsB l))), (6, .d (.int .i64 (i : Int))), (7, .slc (.g 0) 2 0 (i + 1) c2)] ∧ s = [(0, .row 2 (rowsB (l.take i ++ [b])))]) rfl rfl (by kernel_rfl) ?_ ?_
    · conv => whnf
      repeat' (first
        | (refine Both.mk ?_ ?_ <;> conv => whnf)
        | (refine ⟨⟨by omega, by omega, by omega⟩, ?_⟩; (conv => whnf); rw [e1])
        | (refine .obj rfl ?_; (conv => whnf); refine ⟨_, _, ⟨WkL.refl _, hin⟩, fun res s1 h => ?_⟩; obtain ⟨c, hc, rfl, rfl⟩ := h; conv => whnf)
        | (refine ⟨by omega, ⟨show (2 * (i + 1) + 1024) * 16 ≤ 281474976710656 by omega, show i + 1 ≤ 4611686018427387904 by omega⟩, ?_⟩; (conv => whnf); intro c2 hc2; conv => whnf)
        | exact ⟨_, by assumption, rfl, hrow⟩)
    rintro env s ⟨c2, hc2, rfl, rfl⟩
    conv => whnf
    refine ⟨⟨by omega, by omega, by omega⟩, ?_⟩
    conv => whnf
    have e4 : (List.drop ((i : Int)).toNat (List.take (((rowsB l).length : Int)).toNat (rowsB l))) = rowsB (l.drop i) := by rw [Int.toNat_natCast, Int.toNat_natCast, List.take_of_length_le (Nat.le_refl _)]; simp [rowsB]
    have e5 : (rowsB (l.drop i)).length = l.length - i := by rw [rowsB_len, List.length_drop]
    have e7 : (rowsB (l.take i ++ [b])).length = i + 1 := by rw [rowsB_len, List.length_append, e2]; rfl
    rw [e4]
    refine ⟨by omega, ⟨?_, ?_⟩, ?_⟩
    · show (2 * (i + 1 + (rowsB (l.drop i)).length) + 1024) * 16 ≤ 281474976710656; rw [e5]; omega
    · show i + 1 + (rowsB (l.drop i)).length ≤ _; rw [e5]; omega
    conv => whnf
    intro c3 hc3
    conv => whnf
    have e8 : List.take (i + 1) (rowsB (l.take i ++ [b])) ++ rowsB (l.drop i) = rowsB (l.take i ++ b :: l.drop i) := by
      rw [List.take_of_length_le (by omega)]
      simp [rowsB]
    rw [e8]
    have e9 : (rowsB (l.take i ++ b :: l.drop i)).length = i + 1 + (rowsB (l.drop i)).length := by
      rw [rowsB_len, rowsB_len, List.length_append, List.length_cons, e2]; omega
    refine ⟨_, _, GV.freeze 1 rfl (by simp) (by repeat' first | exact trivial | apply And.intro | decide | (simp; done) | omega) (by repeat' first | exact trivial | apply And.intro), ?_⟩
    conv => whnf
    refine ⟨?_, rfl⟩
    rw [List.drop_zero, List.take_of_length_le (by omega)]
theorem ints29D (l : List Int) (hl : l.length ≤ 100000) : Contract Tryz.prog G0 29 [.d (.list 1 (rowsI l))] [] (fun r t => r = .d (.list 1 (rowsI l)) ∧ t = []) := by
  refine (ints43 l (by omega)).told fun r t hr => ?_
  obtain ⟨c, hc, rfl, rfl⟩ := hr
  refine ⟨.d (.list 1 (rowsI l)), ?_, rfl, rfl, rfl⟩
  have hrl := rowsI_len l
  refine GV.trans (GV.freeze 0 rfl (by simp) (by repeat' first | exact trivial | apply And.intro | decide | (simp; done) | (simp; omega) | omega) (by repeat' first | exact trivial | apply And.intro)) (GV.tidied [0] ?_)
  conv => whnf
  rw [List.drop_zero, List.take_of_length_le (by omega)]
  exact ⟨rfl, rfl⟩
set_option maxRecDepth 100000 in
theorem copyEntry30 (e : En) (he : e.bids.length ≤ 100000) : Contract Tryz.prog G0 30 [entV e] [] (fun r t => r = entV e ∧ t = []) := by
  refine run30 0 [] rfl rfl ?_
  conv => whnf
  refine .data [.d (.list 2 (rowsB e.bids))] _ ⟨WkL.refl _, rfl, bids74D e.bids he⟩ ?_
  conv => whnf
  exact ⟨rfl, rfl⟩
/-- What a copy hands back. -/
def copyR (cnt fdr hop : Int) (mem : List Int) (l : List En) (r : AV) (t : List (Nat × AB)) : Prop :=
  (l = [] ∧ r = rgV cnt fdr hop mem (.d .nil) ∧ t = []) ∨ ∃ c, 0 < l.length ∧ l.length ≤ c ∧ r = rgV cnt fdr hop mem (.slc (.g 0) 5 0 l.length c) ∧ t = [(0, .row 5 (rowsE l))]
set_option maxRecDepth 100000 in
theorem copyRing6 (cnt fdr hop : Int) (mem : List Int) (hm : mem.length ≤ 100000) (l : List En) (hl : l.length ≤ 1000) (hb : ∀ e ∈ l, e.bids.length ≤ 100000) : Contract Tryz.prog G0 6 [awG cnt fdr hop mem l] [] (copyR cnt fdr hop mem l) := by
  have hlen := rowsE_len l
  refine run6 0 [] rfl rfl ?_
  conv => whnf
  refine .data [.d (.list 1 (rowsI mem))] _ ⟨WkL.refl _, rfl, ints29D mem hm⟩ ?_
  conv => whnf
  refine StopG.rounds wk6 [] [1, 2, 3, 4] (fun m env s => ∃ i : Nat, i ≤ l.length ∧ m = l.length - i ∧ env = [(1, .ref (.g 0) 0), (2, .ref (.g 1) 0), (3, .ref (.g 2) 0), (4, .d (.int .i64 (i : Int)))] ∧
    ((i = 0 ∧ s = [(0, cR cnt fdr hop mem (.d (.list 5 (rowsE l)))), (1, c0), (2, cR cnt fdr hop mem (.d .nil))]) ∨
      ∃ c, 0 < i ∧ i ≤ c ∧ s = [(0, cR cnt fdr hop mem (.d (.list 5 (rowsE l)))), (1, c0), (2, cR cnt fdr hop mem (.slc (.g 3) 5 0 i c)), (3, .row 5 (rowsE (l.take i)))])) rfl ?_ ?_
  · conv => whnf
    exact ⟨_, 0, Nat.zero_le _, rfl, rfl, .inl ⟨rfl, rfl⟩⟩
  rintro m env s ⟨i, hi, rfl, rfl, ⟨hi0, rfl⟩ | ⟨c, hi0, hc, rfl⟩⟩
  · conv => whnf
    refine bcase_intro (fun h => ?_) (fun h => ?_) <;> conv => whnf
    · have h := lt_of h
      rw [hlen] at h
      obtain ⟨x, hx, hdrop⟩ := at_i h
      refine ⟨rowE x, ⟨by omega, row_i hx⟩, ?_⟩
      conv => whnf
      refine .data [entV x] _ ⟨WkL.refl _, rfl, copyEntry30 x (hb x (List.mem_of_getElem? hx))⟩ ?_
      conv => whnf
      refine ⟨⟨show (2 * 1 + 1024) * 56 ≤ 281474976710656 by omega, show 1 ≤ 4611686018427387904 by omega⟩, ?_⟩
      conv => whnf
      intro c2 hc2
      conv => whnf
      rw [succ_i h (by omega)]
      refine ⟨_, by omega, i + 1, h, rfl, rfl, .inr ⟨c2, by omega, by rw [hi0]; exact hc2, ?_⟩⟩
      rw [List.take_add_one, hx, hi0]
      rfl
    · have h := ge_of h
      rw [hlen] at h
      have hl0 : l = [] := List.eq_nil_of_length_eq_zero (by omega)
      exact .inl ⟨hl0, rfl, rfl⟩
  · conv => whnf
    refine bcase_intro (fun h => ?_) (fun h => ?_) <;> conv => whnf
    · have h := lt_of h
      rw [hlen] at h
      obtain ⟨x, hx, hdrop⟩ := at_i h
      have htl := rowsE_len (l.take i)
      rw [List.length_take] at htl
      refine ⟨rowE x, ⟨by omega, row_i hx⟩, ?_⟩
      conv => whnf
      refine .data [entV x] _ ⟨WkL.refl _, rfl, copyEntry30 x (hb x (List.mem_of_getElem? hx))⟩ ?_
      conv => whnf
      refine ⟨by omega, ⟨show (2 * (i + 1) + 1024) * 56 ≤ 281474976710656 by omega, show i + 1 ≤ 4611686018427387904 by omega⟩, ?_⟩
      conv => whnf
      intro c2 hc2
      conv => whnf
      rw [succ_i h (by omega)]
      refine ⟨_, by omega, i + 1, h, rfl, rfl, .inr ⟨c2, by omega, hc2, ?_⟩⟩
      rw [List.take_add_one, hx, List.take_of_length_le (by omega), show rowsE (l.take i ++ (some x).toList) = rowsE (l.take i) ++ [rowE x] by simp [rowsE]]
      rfl
    · have h := ge_of h
      rw [hlen] at h
      have : i = l.length := by omega
      subst this
      rw [List.take_length]
      exact .inr ⟨c, hi0, hc, rfl, rfl⟩
end Go.Proofs.YtkenimmellonjaaGreat
/- Seat Z: the reference's ledger: passing, founding, whose it is, what is wanted, what stays. -/
namespace Go.Proofs.YtkenimmellonjaaGreat
open Go.Pv Go.RowKit Go.Shelf
theorem copy_nil0 (cnt fdr hop : Int) (mem : List Int) (hm : mem.length ≤ 100000) : Contract Tryz.prog G0 6 [awG cnt fdr hop mem []] [] (fun r t => r = rgV cnt fdr hop mem (.d .nil) ∧ t = []) :=
  (copyRing6 cnt fdr hop mem hm [] (by simp) (by simp)).mono fun r t h => by
    rcases h with ⟨_, h1, h2⟩ | ⟨c, h, _⟩
    · exact ⟨h1, h2⟩
    · simp at h
theorem copy_nil (cnt fdr hop : Int) (mem : List Int) (hm : mem.length ≤ 100000) : Contract Tryz.prog G0 6 [awG cnt fdr hop mem []] [] (fun r t => r = awG cnt fdr hop mem [] ∧ t = []) :=
  (copy_nil0 cnt fdr hop mem hm).weak 5 fun r t h => by
    obtain ⟨h, rfl⟩ := h
    subst h
    exact ⟨rfl, rfl, rfl, rfl⟩
theorem copy_cons (cnt fdr hop : Int) (mem : List Int) (hm : mem.length ≤ 100000) (e0 : En) (l0 : List En) (hl : l0.length + 1 ≤ 1000) (hb : ∀ e ∈ e0 :: l0, e.bids.length ≤ 100000) :
    Contract Tryz.prog G0 6 [awG cnt fdr hop mem (e0 :: l0)] [] (fun r t => ∃ c, l0.length + 1 ≤ c ∧ r = rgV cnt fdr hop mem (.slc (.g 0) 5 0 (l0.length + 1) c) ∧ t = [(0, .row 5 (rowsE (e0 :: l0)))]) :=
  (copyRing6 cnt fdr hop mem hm (e0 :: l0) (by simpa using hl) hb).mono fun r t h => by
    rcases h with ⟨h, _⟩ | ⟨c, _, h1, h2, h3⟩
    · cases h
    · exact ⟨c, h1, h2, h3⟩
theorem copyD (cnt fdr hop : Int) (mem : List Int) (hm : mem.length ≤ 100000) (l : List En) (hl : l.length ≤ 1000) (hb : ∀ e ∈ l, e.bids.length ≤ 100000) : Contract Tryz.prog G0 6 [awG cnt fdr hop mem l] [] (fun r t => r = awG cnt fdr hop mem l ∧ t = []) := by
  cases l with
  | nil => exact copy_nil cnt fdr hop mem hm
  | cons e0 l0 =>
    refine (copy_cons cnt fdr hop mem hm e0 l0 (by simpa using hl) hb).told fun r t hr => ?_
    obtain ⟨c, hc, rfl, rfl⟩ := hr
    refine ⟨awG cnt fdr hop mem (e0 :: l0), ?_, rfl, rfl, rfl⟩
    have hrl := rowsE_len (e0 :: l0)
    simp only [List.length_cons] at hrl
    refine GV.trans (GV.freeze 0 rfl (by simp) (by repeat' first | exact trivial | apply And.intro | decide | (simp; done) | (simp; omega) | omega) (by repeat' first | exact trivial | apply And.intro)) (GV.tidied [0] ?_)
    conv => whnf
    rw [List.drop_zero, List.take_of_length_le (by omega)]
    exact ⟨rfl, rfl⟩
set_option maxRecDepth 100000 in
theorem pass12 (cnt fdr hop : Int) (mem : List Int) (hm : mem.length ≤ 100000) (l : List En) (hl : l.length ≤ 1000) (hb : ∀ e ∈ l, e.bids.length ≤ 100000) : Contract Tryz.prog G0 12 [awG cnt fdr hop mem l] [] (fun r t => r = .tup [awG cnt fdr (passH hop) mem l, .d (.bool (passR hop))] ∧ t = []) := by
  refine run12 0 [] rfl rfl ?_
  conv => whnf
  refine .data [awG cnt fdr hop mem l] _ ⟨WkL.refl _, rfl, copyD cnt fdr hop mem hm l hl hb⟩ ?_
  conv => whnf
  refine bcase_intro (fun h => ?_) (fun h => ?_) <;> conv => whnf
  · rw [passH, passR, h]
    exact ⟨rfl, rfl⟩
  · rw [passH, passR, h]
    exact ⟨rfl, rfl⟩
theorem new26_nil (cnt fdr : Int) (l : List Int) (hl : l.length ≤ 10000) : Contract Tryz.prog G0 26 [epoV cnt fdr, .d (.list 1 (rowsI l))] [] (fun r t => r = rgV cnt fdr 0 (setI l) (.d .nil) ∧ t = []) := by
  have hs := set40 l hl
  rw [set6_eq] at hs
  refine run26 0 [] rfl rfl ?_
  conv => whnf
  refine .data [.d (.list 1 (rowsI l))] _ ⟨WkL.refl _, rfl, hs⟩ ?_
  conv => whnf
  exact ⟨rfl, rfl⟩
theorem new26 (cnt fdr : Int) (l : List Int) (hl : l.length ≤ 10000) : Contract Tryz.prog G0 26 [epoV cnt fdr, .d (.list 1 (rowsI l))] [] (fun r t => r = awG cnt fdr 0 (setI l) [] ∧ t = []) :=
  (new26_nil cnt fdr l hl).weak 5 fun r t h => by
    obtain ⟨h, rfl⟩ := h; subst h; exact ⟨rfl, rfl, rfl, rfl⟩
theorem his_eq (who : Int) (e : En) : (bif e.aw == who then decide (who ≥ 0) else false) = hisE who e := by
  unfold hisE
  by_cases h : e.aw = who
  · subst h
    by_cases h2 : 0 ≤ e.aw <;> simp [h2]
  · simp [h]
set_option maxRecDepth 100000 in
theorem mine24 (cnt fdr hop : Int) (mem : List Int) (l : List En) (hl : l.length ≤ 1000) (who : Int) : Contract Tryz.prog G0 24 [awG cnt fdr hop mem l, .d (.int .i64 who)] [] (fun r t => r = .d (.list 3 (rowsK (mineL who l))) ∧ t = []) := by
  have hlen := rowsE_len l
  refine Contract.as_list (by decide) ?_
  refine run24 0 [] rfl rfl ?_
  conv => whnf
  refine StopG.rounds wk24 [] [1, 2, 5, 6] (fun m env s => ∃ (i : Nat) (v : AV) (w : List (Int × Int × Int)), mineL who (l.take i) = w ∧ i ≤ l.length ∧ m = l.length - i ∧ env = [(1, .d (.int .i64 who)), (2, .ref (.g 0) 0), (5, v), (6, .d (.int .i64 (i : Int)))] ∧
    ((w = [] ∧ v = .d .nil ∧ s = [(0, cR cnt fdr hop mem (.d (.list 5 (rowsE l))))]) ∨ ∃ wc, w.length ≤ wc ∧ v = .slc (.g 1) 3 0 w.length wc ∧ s = [(0, cR cnt fdr hop mem (.d (.list 5 (rowsE l)))), (1, .row 3 (rowsK w))])) rfl ?_ ?_
  · conv => whnf
    exact ⟨_, 0, _, [], rfl, Nat.zero_le _, rfl, rfl, .inl ⟨rfl, rfl, rfl⟩⟩
  rintro m env s ⟨i, v, w, hw, hi, rfl, rfl, ⟨hw0, rfl, rfl⟩ | ⟨wc, hwc, rfl, rfl⟩⟩
  all_goals
    have hwl : w.length ≤ 1000 := by
      rw [← hw]
      refine Nat.le_trans (mineL_len _ _) ?_
      rw [List.length_take]; omega
    have hrl := rowsK_len w
    conv => whnf
    refine bcase_intro (fun h => ?_) (fun h => ?_) <;> conv => whnf
  · have hil := lt_of h
    rw [hlen] at hil
    obtain ⟨x, hx, hdrop⟩ := at_i hil
    refine ⟨rowE x, ⟨by omega, row_i hx⟩, ?_⟩
    conv => whnf
    refine bcase_intro (fun hg => ?_) (fun hg => ?_) <;> conv => whnf
    · have hwon : hisE who x = true := (his_eq who x).symm.trans hg
      refine ⟨rowE x, ⟨by omega, row_i hx⟩, ?_⟩
      conv => whnf
      refine ⟨⟨show (2 * 1 + 1024) * 24 ≤ 281474976710656 by omega, show 1 ≤ 4611686018427387904 by omega⟩, ?_⟩
      conv => whnf
      intro c2 hc2
      conv => whnf
      rw [succ_i hil (by omega)]
      refine ⟨_, by omega, i + 1, _, [keyE x], ?_, hil, rfl, rfl, .inr ⟨c2, hc2, rfl, rfl⟩⟩
      rw [mineL_snoc hx, hw, hwon, hw0]; rfl
    · have hwon : hisE who x = false := (his_eq who x).symm.trans hg
      rw [succ_i hil (by omega)]
      refine ⟨_, by omega, i + 1, _, [], ?_, hil, rfl, rfl, .inl ⟨rfl, rfl, rfl⟩⟩
      rw [mineL_snoc hx, hw, hwon, hw0]; rfl
  · have hil := ge_of h
    rw [hlen] at hil
    rw [List.take_of_length_le hil] at hw
    rw [hw, hw0]
    exact .inl ⟨.inl rfl, rfl, rfl⟩
  · have hil := lt_of h
    rw [hlen] at hil
    obtain ⟨x, hx, hdrop⟩ := at_i hil
    refine ⟨rowE x, ⟨by omega, row_i hx⟩, ?_⟩
    conv => whnf
    refine bcase_intro (fun hg => ?_) (fun hg => ?_) <;> conv => whnf
    · have hwon : hisE who x = true := (his_eq who x).symm.trans hg
      refine ⟨rowE x, ⟨by omega, row_i hx⟩, ?_⟩
      conv => whnf
      refine ⟨by omega, ⟨show (2 * (w.length + 1) + 1024) * 24 ≤ 281474976710656 by omega, show w.length + 1 ≤ 4611686018427387904 by omega⟩, ?_⟩
      conv => whnf
      intro c2 hc2
      conv => whnf
      rw [succ_i hil (by omega), List.take_of_length_le (by omega)]
      refine ⟨_, by omega, i + 1, _, w ++ [keyE x], ?_, hil, rfl, rfl, .inr ⟨c2, by simpa using hc2, ?_, ?_⟩⟩
      · rw [mineL_snoc hx, hw, hwon]
      · rw [List.length_append]; rfl
      · rw [show rowsK (w ++ [keyE x]) = rowsK w ++ [rowK (keyE x)] by simp [rowsK]]; rfl
    · have hwon : hisE who x = false := (his_eq who x).symm.trans hg
      rw [succ_i hil (by omega)]
      refine ⟨_, by omega, i + 1, _, w, ?_, hil, rfl, rfl, .inr ⟨wc, hwc, rfl, rfl⟩⟩
      rw [mineL_snoc hx, hw, hwon, List.append_nil]
  · have hil := ge_of h
    rw [hlen] at hil
    rw [List.take_of_length_le hil] at hw
    rw [hw]
    exact .inr ⟨wc, by omega, by rw [hrl], rfl⟩
end Go.Proofs.YtkenimmellonjaaGreat
/- Seat Z: the reference's ledger: what is wanted, what stays lit. -/
namespace Go.Proofs.YtkenimmellonjaaGreat
open Go.Pv Go.RowKit Go.Shelf
/-- Awarded to nobody, or to somebody. -/
def AwOK (l : List En) : Prop := ∀ e ∈ l, e.aw = -1 ∨ 0 ≤ e.aw
theorem aw_neg {l : List En} (h : AwOK l) {e : En} (he : e ∈ l) : (e.aw == -1) = decide (e.aw < 0) := by
  rcases h e he with h | h
  · rw [h]; rfl
  · rw [show decide (e.aw < 0) = false from decide_eq_false (by omega)]
    have : e.aw ≠ -1 := by omega
    simpa using this
theorem aw_ne {l : List En} (h : AwOK l) {e : En} (he : e ∈ l) : (e.aw != -1) = decide (e.aw ≥ 0) := by
  have := aw_neg h he
  show (!(e.aw == -1)) = _
  rw [this]
  by_cases h2 : e.aw < 0
  · rw [decide_eq_true h2, decide_eq_false (by omega)]; rfl
  · rw [decide_eq_false h2, decide_eq_true (by omega)]; rfl
theorem wish_eq {l : List En} (h : AwOK l) {e : En} (he : e ∈ l) (car : Int) : (bif e.aw == -1 then decide (idxFrom (fun b => b.1 == car) e.bids 0 < 0) else false) = wishE car e := by
  rw [aw_neg h he]
  unfold wishE
  have hof : (ofB e.bids car).2 = decide (idxFrom (fun b : B => b.1 == car) e.bids 0 ≥ 0) := by
    rw [of_any, ← idx_any]
  have e1 : decide (idxFrom (fun b : B => b.1 == car) e.bids 0 ≥ 0) = !decide (idxFrom (fun b : B => b.1 == car) e.bids 0 < 0) := by
    by_cases h2 : idxFrom (fun b : B => b.1 == car) e.bids 0 < 0
    · rw [decide_eq_true h2, decide_eq_false (show ¬ (idxFrom (fun b : B => b.1 == car) e.bids 0 ≥ 0) by omega)]; rfl
    · rw [decide_eq_false h2, decide_eq_true (show idxFrom (fun b : B => b.1 == car) e.bids 0 ≥ 0 by omega)]; rfl
  rw [hof, e1]
  cases decide (idxFrom (fun b : B => b.1 == car) e.bids 0 < 0) <;> cases decide (e.aw < 0) <;> rfl
set_option maxRecDepth 100000 in
theorem wants21 (cnt fdr hop : Int) (mem : List Int) (hm : mem.length ≤ 100000) (l : List En) (hl : l.length ≤ 1000) (hb : ∀ e ∈ l, e.bids.length ≤ 100000) (hv : AwOK l) (car : Int) : Contract Tryz.prog G0 21 [awG cnt fdr hop mem l, .d (.int .i64 car)] [] (fun r t => r = .d (.list 2 (rowsC (wantL mem car l))) ∧ t = []) := by
  have hlen := rowsE_len l
  refine Contract.as_list (by decide) ?_
  refine run21 0 [] rfl rfl ?_
  conv => whnf
  refine StopG.rounds wk21 [] [1, 2, 5, 6] (fun m env s => ∃ (i : Nat) (v : AV) (w : List (Int × Int)), wishL car (l.take i) = w ∧ (0 < i → (mem.any fun y => y == car) = true) ∧ i ≤ l.length ∧ m = l.length - i ∧ env = [(1, .d (.int .i64 car)), (2, .ref (.g 0) 0), (5, v), (6, .d (.int .i64 (i : Int)))] ∧
    ((w = [] ∧ v = .d .nil ∧ s = [(0, cR cnt fdr hop mem (.d (.list 5 (rowsE l))))]) ∨ ∃ wc, w.length ≤ wc ∧ v = .slc (.g 1) 2 0 w.length wc ∧ s = [(0, cR cnt fdr hop mem (.d (.list 5 (rowsE l)))), (1, .row 2 (rowsC w))])) rfl ?_ ?_
  · conv => whnf
    exact ⟨_, 0, _, [], rfl, fun h => absurd h (Nat.lt_irrefl 0), Nat.zero_le _, rfl, rfl, .inl ⟨rfl, rfl, rfl⟩⟩
  rintro m env s ⟨i, v, w, hw, hin, hi, rfl, rfl, ⟨hw0, rfl, rfl⟩ | ⟨wc, hwc, rfl, rfl⟩⟩
  all_goals
    have hwl : w.length ≤ 1000 := by
      rw [← hw]
      refine Nat.le_trans (wishL_len _ _) ?_
      rw [List.length_take]; omega
    have hrl := rowsC_len w
    conv => whnf
    refine .scal [.d (.list 1 (rowsI mem)), .d (.int .i64 car)] _ (fun _ => ⟨.refl _, rfl, among mem (by omega) car⟩) ?_
    conv => whnf
    refine bcase_intro (fun h => ?_) (fun h => ?_) <;> conv => whnf
  · rw [bif_and, Bool.and_eq_true] at h
    have hil := lt_of h.1
    have hany : (mem.any fun y => y == car) = true := h.2
    rw [hlen] at hil
    obtain ⟨x, hx, hdrop⟩ := at_i hil
    have hxm := List.mem_of_getElem? hx
    have hxb := hb x hxm
    refine ⟨rowE x, ⟨by omega, row_i hx⟩, ?_⟩
    conv => whnf
    refine ⟨rowE x, (fun _ => ⟨by omega, row_i hx⟩), ?_⟩
    conv => whnf
    refine .scal [.d (.list 2 (rowsB x.bids)), .d (.int .i64 car)] _ (fun _ => ⟨.refl _, rfl, find63 x.bids hxb car⟩) ?_
    conv => whnf
    refine bcase_intro (fun hg => ?_) (fun hg => ?_) <;> conv => whnf
    · have hwon : wishE car x = true := (wish_eq hv hxm car).symm.trans hg
      refine ⟨rowE x, ⟨by omega, row_i hx⟩, ?_⟩
      conv => whnf
      refine ⟨⟨show (2 * 1 + 1024) * 16 ≤ 281474976710656 by omega, show 1 ≤ 4611686018427387904 by omega⟩, ?_⟩
      conv => whnf
      intro c2 hc2
      conv => whnf
      rw [succ_i hil (by omega)]
      refine ⟨_, by omega, i + 1, _, [callE x], ?_, fun _ => hany, hil, rfl, rfl, .inr ⟨c2, hc2, rfl, rfl⟩⟩
      rw [wishL_snoc hx, hw, hwon, hw0]; rfl
    · have hwon : wishE car x = false := (wish_eq hv hxm car).symm.trans hg
      rw [succ_i hil (by omega)]
      refine ⟨_, by omega, i + 1, _, [], ?_, fun _ => hany, hil, rfl, rfl, .inl ⟨rfl, rfl, rfl⟩⟩
      rw [wishL_snoc hx, hw, hwon, hw0]; rfl
  · refine .inl ⟨.inl rfl, ?_, rfl⟩
    have : wantL mem car l = [] := by
      unfold wantL
      rw [any_swap]
      cases hany : (mem.any fun y => y == car) with
      | false => rfl
      | true =>
        rw [hany] at h
        have hil : l.length ≤ i := by
          rcases Nat.lt_or_ge i l.length with h1 | h1
          · rw [hlen, decide_eq_true (show (i : Int) < (l.length : Int) by omega)] at h; cases h
          · exact h1
        rw [List.take_of_length_le hil] at hw
        rw [hw, hw0]; rfl
    rw [this]; rfl
  · rw [bif_and, Bool.and_eq_true] at h
    have hil := lt_of h.1
    have hany : (mem.any fun y => y == car) = true := h.2
    rw [hlen] at hil
    obtain ⟨x, hx, hdrop⟩ := at_i hil
    have hxm := List.mem_of_getElem? hx
    have hxb := hb x hxm
    refine ⟨rowE x, ⟨by omega, row_i hx⟩, ?_⟩
    conv => whnf
    refine ⟨rowE x, (fun _ => ⟨by omega, row_i hx⟩), ?_⟩
    conv => whnf
    refine .scal [.d (.list 2 (rowsB x.bids)), .d (.int .i64 car)] _ (fun _ => ⟨.refl _, rfl, find63 x.bids hxb car⟩) ?_
    conv => whnf
    refine bcase_intro (fun hg => ?_) (fun hg => ?_) <;> conv => whnf
    · have hwon : wishE car x = true := (wish_eq hv hxm car).symm.trans hg
      refine ⟨rowE x, ⟨by omega, row_i hx⟩, ?_⟩
      conv => whnf
      refine ⟨by omega, ⟨show (2 * (w.length + 1) + 1024) * 16 ≤ 281474976710656 by omega, show w.length + 1 ≤ 4611686018427387904 by omega⟩, ?_⟩
      conv => whnf
      intro c2 hc2
      conv => whnf
      rw [succ_i hil (by omega), List.take_of_length_le (by omega)]
      refine ⟨_, by omega, i + 1, _, w ++ [callE x], ?_, fun _ => hany, hil, rfl, rfl, .inr ⟨c2, by simpa using hc2, ?_, ?_⟩⟩
      · rw [wishL_snoc hx, hw, hwon]
      · rw [List.length_append]; rfl
      · rw [show rowsC (w ++ [callE x]) = rowsC w ++ [rowC (callE x)] by simp [rowsC]]; rfl
    · have hwon : wishE car x = false := (wish_eq hv hxm car).symm.trans hg
      rw [succ_i hil (by omega)]
      refine ⟨_, by omega, i + 1, _, w, ?_, fun _ => hany, hil, rfl, rfl, .inr ⟨wc, hwc, rfl, rfl⟩⟩
      rw [wishL_snoc hx, hw, hwon, List.append_nil]
  · have hwe : wantL mem car l = w := by
      unfold wantL
      rw [any_swap]
      cases hany : (mem.any fun y => y == car) with
      | false =>
        have hi0 : i = 0 := by
          rcases Nat.eq_zero_or_pos i with h1 | h1
          · exact h1
          · rw [hin h1] at hany; cases hany
        rw [hi0] at hw
        rw [← hw]; rfl
      | true =>
        rw [hany] at h
        have hil : l.length ≤ i := by
          rcases Nat.lt_or_ge i l.length with h1 | h1
          · rw [hlen, decide_eq_true (show (i : Int) < (l.length : Int) by omega)] at h; cases h
          · exact h1
        rw [List.take_of_length_le hil] at hw
        rw [hw]; rfl
    rw [hwe]
    exact .inr ⟨wc, by omega, by rw [hrl], rfl⟩
theorem lit_has (ks : List (Int × Int × Int)) (e : En) : hasK ks (keyE e) = litE ks e := by
  unfold hasK litE
  congr 1
  funext x
  unfold sameK eqK
  rw [Bool.beq_comm (a := x.1), Bool.beq_comm (a := x.2.1), Bool.beq_comm (a := x.2.2)]
  cases (keyE e).1 == x.1 <;> cases (keyE e).2.1 == x.2.1 <;> rfl
theorem stay_snoc {ks : List (Int × Int × Int)} {l : List En} {i : Nat} {x : En} (hx : l[i]? = some x) : stayL ks (l.take (i + 1)) = stayL ks (l.take i) ++ (match litE ks x with | true => [x] | false => []) := by
  rw [List.take_add_one, hx]
  simp only [stayL, List.filter_append, Option.toList]
  cases h : litE ks x <;> simp [h]
/-- A ring, or none of its entries. -/
def ringR (cnt fdr hop : Int) (mem : List Int) (L : List En) (r : AV) (t : List (Nat × AB)) : Prop :=
  (L = [] ∧ r = rgV cnt fdr hop mem (.d .nil) ∧ t = []) ∨ ∃ cap, L.length ≤ cap ∧ r = rgV cnt fdr hop mem (.slc (.g 0) 5 0 L.length cap) ∧ t = [(0, .row 5 (rowsE L))]
theorem ringR_data {f : Nat} {args : List AV} {cnt fdr hop : Int} {mem : List Int} {L : List En} (h : Contract Tryz.prog G0 f args [] (ringR cnt fdr hop mem L)) : Contract Tryz.prog G0 f args [] (fun r t => r = awG cnt fdr hop mem L ∧ t = []) := by
  refine h.told fun r t hr => ?_
  have hrl := rowsE_len L
  rcases hr with ⟨h0, rfl, rfl⟩ | ⟨cap, hc, rfl, rfl⟩
  · rw [h0]
    refine ⟨awG cnt fdr hop mem [], ?_, rfl, rfl, rfl⟩
    exact GV.weak (cx := cx1 G0) (n := 0) (env := [(0, rgV cnt fdr hop mem (.d .nil))]) (s := []) (wkA 5) rfl fun _ _ _ _ _ h => wkA_rv 5 h
  · refine ⟨awG cnt fdr hop mem L, ?_, rfl, rfl, rfl⟩
    refine GV.trans (GV.freeze 0 rfl (by simp) (by repeat' first | exact trivial | apply And.intro | decide | (simp; done) | (simp; omega) | omega) (by repeat' first | exact trivial | apply And.intro)) (GV.tidied [0] ?_)
    conv => whnf
    rw [List.drop_zero, List.take_of_length_le (by omega)]
    exact ⟨rfl, rfl⟩
set_option maxRecDepth 100000 in
theorem purge16 (cnt fdr hop : Int) (mem : List Int) (hm : mem.length ≤ 100000) (l : List En) (hl : l.length ≤ 1000) (hb : ∀ e ∈ l, e.bids.length ≤ 100000) (ks : List (Int × Int × Int)) (hk : ks.length ≤ 100000) :
    Contract Tryz.prog G0 16 [awG cnt fdr hop mem l, .d (.list 3 (rowsK ks))] [] (fun r t => r = awG cnt fdr hop mem (stayL ks l) ∧ t = []) := by
  have hlen := rowsE_len l
  refine ringR_data ?_
  refine run16 0 [] rfl rfl ?_
  conv => whnf
  refine .data [awG cnt fdr hop mem l] _ ⟨WkL.refl _, rfl, copyD cnt fdr hop mem hm l hl hb⟩ ?_
  conv => whnf
  refine StopG.rounds wk16 [] [1, 2, 4, 5, 6] (fun m env s => ∃ (i : Nat) (w : List En), stayL ks (l.take i) = w ∧ i ≤ l.length ∧ m = l.length - i ∧ env = [(1, .d (.list 3 (rowsK ks))), (2, .ref (.g 0) 0), (4, .ref (.g 1) 0), (5, .ref (.g 2) 0), (6, .d (.int .i64 (i : Int)))] ∧
    ((w = [] ∧ s = [(0, cR cnt fdr hop mem (.d (.list 5 (rowsE l)))), (1, c0), (2, cR cnt fdr hop mem (.d .nil))]) ∨ ∃ wc, w.length ≤ wc ∧ s = [(0, cR cnt fdr hop mem (.d (.list 5 (rowsE l)))), (1, c0), (2, cR cnt fdr hop mem (.slc (.g 3) 5 0 w.length wc)), (3, .row 5 (rowsE w))])) rfl ?_ ?_
  · conv => whnf
    exact ⟨_, 0, [], rfl, Nat.zero_le _, rfl, rfl, .inl ⟨rfl, rfl⟩⟩
  rintro m env s ⟨i, w, hw, hi, rfl, rfl, ⟨hw0, rfl⟩ | ⟨wc, hwc, rfl⟩⟩
  all_goals
    have hwl : w.length ≤ 1000 := by
      rw [← hw]
      refine Nat.le_trans (List.length_filter_le _ _) ?_
      rw [List.length_take]; omega
    have hrl := rowsE_len w
    conv => whnf
    refine bcase_intro (fun h => ?_) (fun h => ?_) <;> conv => whnf
  · have hil := lt_of h
    rw [hlen] at hil
    obtain ⟨x, hx, hdrop⟩ := at_i hil
    have hxb := hb x (List.mem_of_getElem? hx)
    refine ⟨rowE x, ⟨by omega, row_i hx⟩, ?_⟩
    conv => whnf
    refine .scal [.d (.list 3 (rowsK ks)), latV x.fl x.dr x.gn] _ ⟨.refl _, rfl, hasLatch ks hk x.fl x.dr x.gn⟩ ?_
    conv => whnf
    refine bcase_intro (fun hg => ?_) (fun hg => ?_) <;> conv => whnf
    · have hwon : litE ks x = true := (lit_has ks x).symm.trans hg
      refine ⟨rowE x, ⟨by omega, row_i hx⟩, ?_⟩
      conv => whnf
      refine .data [entV x] _ ⟨WkL.refl _, rfl, copyEntry30 x hxb⟩ ?_
      conv => whnf
      refine ⟨⟨show (2 * 1 + 1024) * 56 ≤ 281474976710656 by omega, show 1 ≤ 4611686018427387904 by omega⟩, ?_⟩
      conv => whnf
      intro c2 hc2
      conv => whnf
      rw [succ_i hil (by omega)]
      refine ⟨_, by omega, i + 1, [x], ?_, hil, rfl, rfl, .inr ⟨c2, hc2, rfl⟩⟩
      rw [stay_snoc hx, hw, hwon, hw0]; rfl
    · have hwon : litE ks x = false := (lit_has ks x).symm.trans hg
      rw [succ_i hil (by omega)]
      refine ⟨_, by omega, i + 1, [], ?_, hil, rfl, rfl, .inl ⟨rfl, rfl⟩⟩
      rw [stay_snoc hx, hw, hwon, hw0]; rfl
  · have hil := ge_of h
    rw [hlen] at hil
    rw [List.take_of_length_le hil] at hw
    rw [hw, hw0]
    exact .inl ⟨rfl, rfl, rfl⟩
  · have hil := lt_of h
    rw [hlen] at hil
    obtain ⟨x, hx, hdrop⟩ := at_i hil
    have hxb := hb x (List.mem_of_getElem? hx)
    refine ⟨rowE x, ⟨by omega, row_i hx⟩, ?_⟩
    conv => whnf
    refine .scal [.d (.list 3 (rowsK ks)), latV x.fl x.dr x.gn] _ ⟨.refl _, rfl, hasLatch ks hk x.fl x.dr x.gn⟩ ?_
    conv => whnf
    refine bcase_intro (fun hg => ?_) (fun hg => ?_) <;> conv => whnf
    · have hwon : litE ks x = true := (lit_has ks x).symm.trans hg
      refine ⟨rowE x, ⟨by omega, row_i hx⟩, ?_⟩
      conv => whnf
      refine .data [entV x] _ ⟨WkL.refl _, rfl, copyEntry30 x hxb⟩ ?_
      conv => whnf
      refine ⟨by omega, ⟨show (2 * (w.length + 1) + 1024) * 56 ≤ 281474976710656 by omega, show w.length + 1 ≤ 4611686018427387904 by omega⟩, ?_⟩
      conv => whnf
      intro c2 hc2
      conv => whnf
      have hwn : rowsE (w ++ [x]) = rowsE w ++ [rowE x] := by simp [rowsE]
      rw [succ_i hil (by omega), List.take_of_length_le (by omega)]
      refine ⟨_, by omega, i + 1, w ++ [x], ?_, hil, rfl, rfl, .inr ⟨c2, by rw [List.length_append]; exact hc2, ?_⟩⟩
      · rw [stay_snoc hx, hw, hwon]
      · rw [hwn, List.length_append]; rfl
    · have hwon : litE ks x = false := (lit_has ks x).symm.trans hg
      rw [succ_i hil (by omega)]
      refine ⟨_, by omega, i + 1, w, ?_, hil, rfl, rfl, .inr ⟨wc, hwc, rfl⟩⟩
      rw [stay_snoc hx, hw, hwon, List.append_nil]
  · have hil := ge_of h
    rw [hlen] at hil
    rw [List.take_of_length_le hil] at hw
    rw [hw]
    exact .inr ⟨wc, hwc, rfl, rfl⟩
end Go.Proofs.YtkenimmellonjaaGreat
/- Seat Z: the reference's ledger: bids, awards. -/
namespace Go.Proofs.YtkenimmellonjaaGreat
open Go.Pv Go.RowKit Go.Shelf
set_option maxRecDepth 100000 in
theorem bid8_nil (cnt fdr hop : Int) (mem : List Int) (hm : mem.length ≤ 100000) (b : B) (c : Int × Int) : Contract Tryz.prog G0 8 [awG cnt fdr hop mem [], bidv b, calV c.1 c.2] [] (fun r t => r = .tup [awG cnt fdr hop mem [], .d (.bool false)] ∧ t = []) := by
  refine run8 0 [] rfl rfl ?_
  conv => whnf
  refine .data [awG cnt fdr hop mem []] _ ⟨WkL.refl _, rfl, copy_nil cnt fdr hop mem hm⟩ ?_
  conv => whnf
  refine .scal [awG cnt fdr hop mem [], calV c.1 c.2] (.d (.int .i64 (-1))) ⟨.refl _, rfl, place35 cnt fdr hop mem [] (by simp) c.1 c.2⟩ ?_
  conv => whnf
  refine ⟨rowE ⟨0, 0, 0, [], 0⟩, (fun hg => by simp [HG, lit, rfind] at hg), ?_⟩
  conv => whnf
  refine .scal [.d (.list 1 (rowsI mem)), .d (.int .i64 b.1)] _ (fun _ => ⟨.refl _, rfl, among mem (by omega) b.1⟩) ?_
  conv => whnf
  exact ⟨rfl, rfl⟩
set_option maxRecDepth 100000 in
theorem bid8_cons (cnt fdr hop : Int) (mem : List Int) (hm : mem.length ≤ 100000) (e0 : En) (l0 : List En) (hl : l0.length + 1 ≤ 1000) (hb : ∀ e ∈ e0 :: l0, e.bids.length ≤ 10000) (hv : AwOK (e0 :: l0)) (b : B) (c : Int × Int) :
    Contract Tryz.prog G0 8 [awG cnt fdr hop mem (e0 :: l0), bidv b, calV c.1 c.2] [] (fun r t => ∃ cap, l0.length + 1 ≤ cap ∧ r = .tup [rgV cnt fdr hop mem (.slc (.g 0) 5 0 (l0.length + 1) cap), .d (.bool (bidL mem b c (e0 :: l0)).2)] ∧ t = [(0, .row 5 (rowsE (bidL mem b c (e0 :: l0)).1))]) := by
  refine run8 0 [] rfl rfl ?_
  conv => whnf
  refine .obj rfl ?_
  conv => whnf
  refine ⟨_, _, ⟨WkL.refl _, copy_cons cnt fdr hop mem hm e0 l0 (by omega) fun e he => Nat.le_trans (hb e he) (by decide)⟩, fun res s1 h => ?_⟩
  obtain ⟨cap, hc, rfl, rfl⟩ := h
  generalize hle : e0 :: l0 = l at hb hv
  have hll : l.length = l0.length + 1 := by rw [← hle]; rfl
  rw [← hll] at hc ⊢
  have hrl := rowsE_len l
  have hlend : Contract Tryz.prog G0 35 [awG cnt fdr hop mem l, calV c.1 c.2] [] (fun r t => r = .d (.int .i64 (idxFrom (isC c) l 0)) ∧ t = []) := place35 cnt fdr hop mem l (by omega) c.1 c.2
  rw [show awG cnt fdr hop mem l = rgV cnt fdr hop mem (.d (.list 5 ((List.drop 0 (rowsE l)).take l.length))) by rw [List.drop_zero, List.take_of_length_le (by omega)]] at hlend
  conv => whnf
  rcases idx_cases0 (isC c) l with ⟨h1, _⟩ | ⟨k, x, h1, hx, _⟩
  · rw [h1] at hlend
    have hbl : bidL mem b c l = (l, false) := by unfold bidL; rw [h1]; rfl
    rw [hbl]
    refine .scal [rgV cnt fdr hop mem (.d (.list 5 ((List.drop 0 (rowsE l)).take l.length))), calV c.1 c.2] (.d (.int .i64 (-1))) ⟨.fz 4 (.row 5 (rowsE l)) rfl (by simp) (by repeat' first | exact trivial | apply And.intro | decide | (simp; done) | omega) (.refl _), rfl, hlend⟩ ?_
    conv => whnf
    refine ⟨(fun hg => by simp [HG, lit, rfind] at hg), ?_⟩
    conv => whnf
    refine ⟨rowE ⟨0, 0, 0, [], 0⟩, (fun hg => by simp [HG, lit, rfind] at hg), rfl, ?_⟩
    conv => whnf
    refine .scal [.d (.list 1 (rowsI mem)), .d (.int .i64 b.1)] _ (fun _ => ⟨.refl _, rfl, among mem (by omega) b.1⟩) ?_
    conv => whnf
    exact ⟨cap, hc, rfl, rfl⟩
  · rw [h1] at hlend
    have hil : k < l.length := (List.getElem?_eq_some_iff.1 hx).1
    have hxm := List.mem_of_getElem? hx
    have hxb := hb x hxm
    have hbl : bidL mem b c l = bif noBid mem b x then (l, false) else (l.set k (bidEn b x), (putB x.bids b).2) := by
      unfold bidL; rw [h1]; show (match l[k]? with | some x => _ | none => _) = _; rw [hx]
    rw [hbl]
    have hcond : (bif (bif (bif (bif decide ((k : Int) < 0) then true else x.aw != -1) then true else !(mem.any fun y => y == b.1)) then true else decide (b.2 < 0)) then true else decide (b.2 > 1048576)) = noBid mem b x := by
      rw [show decide ((k : Int) < 0) = false from decide_eq_false (by omega), ← any_swap]
      show (bif (bif (bif (x.aw != -1) then true else _) then true else _) then true else _) = _
      rw [aw_ne hv hxm]
      rfl
    refine .scal [rgV cnt fdr hop mem (.d (.list 5 ((List.drop 0 (rowsE l)).take l.length))), calV c.1 c.2] (.d (.int .i64 (k : Int))) ⟨.fz 4 (.row 5 (rowsE l)) rfl (by simp) (by repeat' first | exact trivial | apply And.intro | decide | (simp; done) | omega) (.refl _), rfl, hlend⟩ ?_
    conv => whnf
    refine ⟨fun _ => ⟨by omega, by omega⟩, ?_⟩
    conv => whnf
    refine ⟨rowE x, fun _ => row_g hx, rfl, ?_⟩
    conv => whnf
    refine .scal [.d (.list 1 (rowsI mem)), .d (.int .i64 b.1)] _ (fun _ => ⟨.refl _, rfl, among mem (by omega) b.1⟩) ?_
    conv => whnf
    refine bcase_intro (fun hg => ?_) (fun hg => ?_) <;> conv => whnf
    · have hno : noBid mem b x = true := hcond.symm.trans hg
      rw [hno]
      exact ⟨cap, hc, rfl, rfl⟩
    have hno : noBid mem b x = false := hcond.symm.trans hg
    rw [hno]
    refine ⟨⟨by omega, by omega⟩, ?_⟩
    conv => whnf
    refine ⟨rowE x, row_g hx, rfl, ?_⟩
    conv => whnf
    refine .data [.d (.list 2 (rowsB x.bids)), bidv b] _ ⟨WkL.refl _, rfl, put37 x.bids b hxb⟩ ?_
    conv => whnf
    refine ⟨⟨by omega, by omega⟩, ?_⟩
    conv => whnf
    refine ⟨rowE x, row_g hx, ?_⟩
    conv => whnf
    exact ⟨cap, hc, rfl, congrArg (fun q => [(0, AB.row 5 q)]) (set_row (bidEn b x))⟩
/-- As data. -/
theorem bid8 (cnt fdr hop : Int) (mem : List Int) (hm : mem.length ≤ 100000) (l : List En) (hl : l.length ≤ 1000) (hb : ∀ e ∈ l, e.bids.length ≤ 10000) (hv : AwOK l) (b : B) (c : Int × Int) :
    Contract Tryz.prog G0 8 [awG cnt fdr hop mem l, bidv b, calV c.1 c.2] [] (fun r t => r = .tup [awG cnt fdr hop mem (bidL mem b c l).1, .d (.bool (bidL mem b c l).2)] ∧ t = []) := by
  cases l with
  | nil => exact bid8_nil cnt fdr hop mem hm b c
  | cons e0 l0 =>
    refine (bid8_cons cnt fdr hop mem hm e0 l0 (by simpa using hl) hb hv b c).told fun r t hr => ?_
    obtain ⟨cap, hc, rfl, rfl⟩ := hr
    refine ⟨.tup [awG cnt fdr hop mem (bidL mem b c (e0 :: l0)).1, .d (.bool (bidL mem b c (e0 :: l0)).2)], ?_, rfl, rfl, rfl⟩
    have hrl := rowsE_len (bidL mem b c (e0 :: l0)).1
    have hrl2 := bidL_len mem b c (e0 :: l0)
    have hrl3 : (e0 :: l0).length = l0.length + 1 := rfl
    refine GV.trans (GV.freeze 0 rfl (by simp) (by repeat' first | exact trivial | apply And.intro | decide | (simp; done) | omega) (by repeat' first | exact trivial | apply And.intro)) (GV.tidied [0] ?_)
    conv => whnf
    rw [List.drop_zero, List.take_of_length_le (by omega)]
    exact ⟨rfl, rfl⟩
set_option maxRecDepth 100000 in
theorem award10_nil (cnt fdr hop : Int) (mem : List Int) (hm : mem.length ≤ 100000) : Contract Tryz.prog G0 10 [awG cnt fdr hop mem []] [] (fun r t => r = .tup [awG cnt fdr hop mem [], .d (.list 5 [])] ∧ t = []) := by
  refine run10 0 [] rfl rfl ?_
  conv => whnf
  refine .data [awG cnt fdr hop mem []] _ ⟨WkL.refl _, rfl, copy_nil cnt fdr hop mem hm⟩ ?_
  conv => whnf
  refine StopG.roundsM wk10 [] [2, 4, 5, 6] (fun m env s => m = 0 ∧ env = [(2, .ref (.g 0) 0), (4, .ref (.g 1) 0), (5, .d (.list 5 [])), (6, .d (.int .i64 0))] ∧ s = [(0, c0), (1, cR cnt fdr hop mem (.d (.list 5 [])))]) rfl ?_ ?_
  · refine ⟨_, _, GV.wk 5 5, ?_⟩
    conv => whnf
    exact ⟨_, rfl, rfl, rfl⟩
  rintro m env s ⟨rfl, rfl, rfl⟩
  conv => whnf
  exact ⟨rfl, rfl⟩
theorem least_at {b0 : B} {r0 : List B} : (b0 :: r0)[leastK (b0 :: r0) 0 r0]? = some (leastB (b0 :: r0)).1 := by
  obtain ⟨y, h1, h2⟩ := leastK_ok (b0 :: r0) r0 0 b0 rfl (by simp) (by simp)
  rw [h1, h2]
  rfl
set_option maxHeartbeats 4000000 in
set_option maxRecDepth 100000 in
theorem award10_cons (cnt fdr hop : Int) (mem : List Int) (hm : mem.length ≤ 100000) (e0 : En) (l0 : List En) (hl : l0.length + 1 ≤ 1000) (hb : ∀ e ∈ e0 :: l0, e.bids.length ≤ 100000) (hv : AwOK (e0 :: l0)) :
    Contract Tryz.prog G0 10 [awG cnt fdr hop mem (e0 :: l0)] [] (fun r t => ∃ c, l0.length + 1 ≤ c ∧ r = .tup [rgV cnt fdr hop mem (.slc (.g 0) 5 0 (l0.length + 1) c), .d (.list 5 (rowsE (wonL mem (e0 :: l0))))] ∧ t = [(0, .row 5 (rowsE ((e0 :: l0).map (awE mem))))]) := by
  refine run10 0 [] rfl rfl ?_
  conv => whnf
  refine .obj rfl ?_
  conv => whnf
  refine ⟨_, _, ⟨WkL.refl _, copy_cons cnt fdr hop mem hm e0 l0 (by omega) hb⟩, fun res s1 h => ?_⟩
  obtain ⟨c, hc, rfl, rfl⟩ := h
  conv => whnf
  generalize hle : e0 :: l0 = l at hb hv
  have hll : l.length = l0.length + 1 := by rw [← hle]; rfl
  rw [← hll] at hc ⊢
  refine StopG.roundsS wk10 [] [2, 4, 5, 6] (fun m env s => ∃ i : Nat, ∃ w, wonL mem (l.take i) = w ∧ i ≤ l.length ∧ m = l.length - i ∧
    ((w = [] ∧ env = [(2, .ref (.g 0) 0), (4, .ref (.g 1) 0), (5, .d .nil), (6, .d (.int .i64 (i : Int)))] ∧ s = [(0, c0), (1, cR cnt fdr hop mem (.slc (.g 2) 5 0 l.length c)), (2, .row 5 (rowsE ((l.take i).map (awE mem) ++ l.drop i)))]) ∨
      ∃ wc, w.length ≤ wc ∧ env = [(2, .ref (.g 0) 0), (4, .ref (.g 1) 0), (5, .slc (.g 2) 5 0 w.length wc), (6, .d (.int .i64 (i : Int)))] ∧ s = [(0, c0), (1, cR cnt fdr hop mem (.slc (.g 3) 5 0 l.length c)), (2, .row 5 (rowsE w)), (3, .row 5 (rowsE ((l.take i).map (awE mem) ++ l.drop i)))])) rfl ?_ ?_
  · conv => whnf
    exact ⟨_, 0, [], rfl, Nat.zero_le _, rfl, .inl ⟨rfl, rfl, rfl⟩⟩
  rintro m env s ⟨i, w, hw, hi, rfl, hout⟩
  rcases Nat.lt_or_ge i l.length with hil | hil
  · obtain ⟨x, hx, hdrop⟩ := at_i hil
    have hrow := row_g (row := rowE) (mid_at (ms := mem) hx)
    have hxm := List.mem_of_getElem? hx
    have hxb := hb x hxm
    have hwl : w.length ≤ 1001 := by
      rw [← hw]
      refine Nat.le_trans ?_ (show l.length ≤ 1001 by omega)
      rw [wonL, List.length_map]
      exact Nat.le_trans (List.length_filter_le _ _) (by simp; omega)
    have hrl := rowsE_len w
    have hdec : decide ((i : Int) < (l.length : Int)) = true := decide_eq_true (by omega)
    have hsk : (bif x.aw != -1 then true else !(fullB mem x.bids)) = true → wonE mem x = false := fun h => by
      rw [aw_ne hv hxm] at h
      unfold wonE
      by_cases h2 : x.aw < 0
      · rw [decide_eq_false (show ¬ x.aw ≥ 0 by omega)] at h
        have h : (!(fullB mem x.bids)) = true := h
        rw [not_t h]
        cases (bif decide (x.aw < 0) then (leastB x.bids).2 else false) <;> rfl
      · rw [decide_eq_false h2]; rfl
    have hgo : (bif x.aw != -1 then true else !(fullB mem x.bids)) = false → wonE mem x = (leastB x.bids).2 := fun h => by
      rw [aw_ne hv hxm] at h
      obtain ⟨h1, h2⟩ := bor0 h
      have h1 := of_decide_eq_false h1
      unfold wonE
      rw [decide_eq_true (show x.aw < 0 by omega), not_f h2]
      show (bif (leastB x.bids).2 then true else false) = _
      cases (leastB x.bids).2 <;> rfl
    rcases hout with ⟨rfl, rfl, rfl⟩ | ⟨wc, hwc, rfl, rfl⟩
    · refine .go wk10 [] ?_
      conv => whnf
      rw [hdec]
      conv => whnf
      refine ⟨⟨by omega, by omega⟩, ?_⟩
      conv => whnf
      refine ⟨rowE x, hrow, rfl, ?_⟩
      conv => whnf
      refine ⟨fun _ => ⟨by omega, by omega⟩, ?_⟩
      conv => whnf
      refine ⟨rowE x, fun _ => hrow, rfl, ?_⟩
      conv => whnf
      refine .scal [.d (.list 1 (rowsI mem)), .d (.list 2 (rowsB x.bids))] _ (fun _ => ⟨.refl _, rfl, full41 mem (by omega) x.bids hxb⟩) ?_
      conv => whnf
      refine bcase_intro (fun hg => ?_) (fun hg => ?_) <;> conv => whnf
      · have hwon := hsk hg
        rw [succ_i hil (by omega)]
        refine ⟨_, by omega, i + 1, [], ?_, hil, rfl, .inl ⟨rfl, rfl, ?_⟩⟩
        · rw [wonL_snoc hx, hw, hwon]; rfl
        · rw [← mid_set hx, awE_not hwon, set_same (mid_at hx)]
      have hwo := hgo hg
      refine ⟨⟨by omega, by omega⟩, ?_⟩
      conv => whnf
      refine ⟨rowE x, hrow, rfl, ?_⟩
      conv => whnf
      cases hxbs : x.bids with
      | nil =>
        have hwon : wonE mem x = false := by rw [hwo, hxbs]; rfl
        refine .scal [.d (.list 2 (rowsB []))] _ ⟨.refl _, rfl, least42_nil⟩ ?_
        conv => whnf
        rw [succ_i hil (by omega)]
        refine ⟨_, by omega, i + 1, [], ?_, hil, rfl, .inl ⟨rfl, rfl, ?_⟩⟩
        · rw [wonL_snoc hx, hw, hwon]; rfl
        · rw [← mid_set hx, awE_not hwon, set_same (mid_at hx)]
      | cons b0 r0 =>
        have hwon : wonE mem x = true := by rw [hwo, hxbs]; rfl
        have e4 := awE_won hwon
        have hlb : r0.length + 1 ≤ 100000 := by rw [hxbs] at hxb; simpa using hxb
        have hla := least_at (b0 := b0) (r0 := r0)
        refine .scal [.d (.list 2 (rowsB (b0 :: r0)))] _ ⟨.refl _, rfl, least42_cons b0 r0 hlb⟩ ?_
        conv => whnf
        rw [hxbs] at e4
        generalize leastK (b0 :: r0) 0 r0 = k at hla
        rw [show decide ((k : Int) < 0) = false from decide_eq_false (by omega)]
        conv => whnf
        refine ⟨⟨by omega, by omega⟩, ?_⟩
        conv => whnf
        refine ⟨rowE x, hrow, rfl, ?_⟩
        conv => whnf
        rw [hxbs]
        conv => whnf
        refine ⟨rowB (leastB (b0 :: r0)).1, ⟨by omega, row_i hla⟩, ?_⟩
        conv => whnf
        refine ⟨⟨by omega, by omega⟩, ?_⟩
        conv => whnf
        refine ⟨rowE x, hrow, ?_⟩
        conv => whnf
        refine ⟨⟨by omega, by omega⟩, ?_⟩
        conv => whnf
        refine ⟨rowE (awE mem x), (by rw [show (fun x_1 => DV.int IntKind.i64 (leastB (b0 :: r0)).fst.fst :: x_1) [] = [DV.int .i64 (leastB (b0 :: r0)).1.1] from rfl, e4]; exact set_get (mid_at hx)), rfl, ?_⟩
        rw [show (fun x_1 => DV.int IntKind.i64 (leastB (b0 :: r0)).fst.fst :: x_1) [] = [DV.int .i64 (leastB (b0 :: r0)).1.1] from rfl, e4]
        conv => whnf
        have hab : (awE mem x).bids.length ≤ 100000 := by rw [awE_bids]; exact hxb
        refine .data [entV (awE mem x)] _ ⟨WkL.refl _, rfl, copyEntry30 (awE mem x) hab⟩ ?_
        conv => whnf
        refine ⟨⟨show (2 * 1 + 1024) * 56 ≤ 281474976710656 by omega, show 1 ≤ 4611686018427387904 by omega⟩, ?_⟩
        conv => whnf
        intro c2 hc2
        conv => whnf
        rw [succ_i hil (by omega)]
        refine ⟨_, by omega, i + 1, [awE mem x], ?_, hil, rfl, .inr ⟨c2, hc2, rfl, ?_⟩⟩
        · rw [wonL_snoc hx, hw, hwon]; rfl
        · rw [← mid_set hx]
          exact congrArg (fun q => [(0, c0), (1, cR cnt fdr hop mem (.slc (.g 3) 5 0 l.length c)), (2, .row 5 [rowE (awE mem x)]), (3, AB.row 5 q)]) (set_row (awE mem x))
    · refine .go wk10 [] ?_
      conv => whnf
      rw [hdec]
      conv => whnf
      refine ⟨⟨by omega, by omega⟩, ?_⟩
      conv => whnf
      refine ⟨rowE x, hrow, rfl, ?_⟩
      conv => whnf
      refine ⟨fun _ => ⟨by omega, by omega⟩, ?_⟩
      conv => whnf
      refine ⟨rowE x, fun _ => hrow, rfl, ?_⟩
      conv => whnf
      refine .scal [.d (.list 1 (rowsI mem)), .d (.list 2 (rowsB x.bids))] _ (fun _ => ⟨.refl _, rfl, full41 mem (by omega) x.bids hxb⟩) ?_
      conv => whnf
      refine bcase_intro (fun hg => ?_) (fun hg => ?_) <;> conv => whnf
      · have hwon := hsk hg
        rw [succ_i hil (by omega)]
        refine ⟨_, by omega, i + 1, w, ?_, hil, rfl, .inr ⟨wc, hwc, rfl, ?_⟩⟩
        · rw [wonL_snoc hx, hw, hwon, List.append_nil]
        · rw [← mid_set hx, awE_not hwon, set_same (mid_at hx)]
      have hwo := hgo hg
      refine ⟨⟨by omega, by omega⟩, ?_⟩
      conv => whnf
      refine ⟨rowE x, hrow, rfl, ?_⟩
      conv => whnf
      cases hxbs : x.bids with
      | nil =>
        have hwon : wonE mem x = false := by rw [hwo, hxbs]; rfl
        refine .scal [.d (.list 2 (rowsB []))] _ ⟨.refl _, rfl, least42_nil⟩ ?_
        conv => whnf
        rw [succ_i hil (by omega)]
        refine ⟨_, by omega, i + 1, w, ?_, hil, rfl, .inr ⟨wc, hwc, rfl, ?_⟩⟩
        · rw [wonL_snoc hx, hw, hwon, List.append_nil]
        · rw [← mid_set hx, awE_not hwon, set_same (mid_at hx)]
      | cons b0 r0 =>
        have hwon : wonE mem x = true := by rw [hwo, hxbs]; rfl
        have e4 := awE_won hwon
        have hlb : r0.length + 1 ≤ 100000 := by rw [hxbs] at hxb; simpa using hxb
        have hla := least_at (b0 := b0) (r0 := r0)
        refine .scal [.d (.list 2 (rowsB (b0 :: r0)))] _ ⟨.refl _, rfl, least42_cons b0 r0 hlb⟩ ?_
        conv => whnf
        rw [hxbs] at e4
        generalize leastK (b0 :: r0) 0 r0 = k at hla
        rw [show decide ((k : Int) < 0) = false from decide_eq_false (by omega)]
        conv => whnf
        refine ⟨⟨by omega, by omega⟩, ?_⟩
        conv => whnf
        refine ⟨rowE x, hrow, rfl, ?_⟩
        conv => whnf
        rw [hxbs]
        conv => whnf
        refine ⟨rowB (leastB (b0 :: r0)).1, ⟨by omega, row_i hla⟩, ?_⟩
        conv => whnf
        refine ⟨⟨by omega, by omega⟩, ?_⟩
        conv => whnf
        refine ⟨rowE x, hrow, ?_⟩
        conv => whnf
        refine ⟨⟨by omega, by omega⟩, ?_⟩
        conv => whnf
        refine ⟨rowE (awE mem x), (by rw [show (fun x_1 => DV.int IntKind.i64 (leastB (b0 :: r0)).fst.fst :: x_1) [] = [DV.int .i64 (leastB (b0 :: r0)).1.1] from rfl, e4]; exact set_get (mid_at hx)), rfl, ?_⟩
        rw [show (fun x_1 => DV.int IntKind.i64 (leastB (b0 :: r0)).fst.fst :: x_1) [] = [DV.int .i64 (leastB (b0 :: r0)).1.1] from rfl, e4]
        conv => whnf
        have hab : (awE mem x).bids.length ≤ 100000 := by rw [awE_bids]; exact hxb
        refine .data [entV (awE mem x)] _ ⟨WkL.refl _, rfl, copyEntry30 (awE mem x) hab⟩ ?_
        conv => whnf
        refine ⟨by omega, ⟨show (2 * (w.length + 1) + 1024) * 56 ≤ 281474976710656 by omega, show w.length + 1 ≤ 4611686018427387904 by omega⟩, ?_⟩
        conv => whnf
        intro c2 hc2
        conv => whnf
        rw [succ_i hil (by omega), List.take_of_length_le (by omega)]
        refine ⟨_, by omega, i + 1, w ++ [awE mem x], ?_, hil, rfl, .inr ⟨c2, by rw [List.length_append]; exact hc2, ?_, ?_⟩⟩
        · rw [wonL_snoc hx, hw, hwon]
        · rw [List.length_append]; rfl
        · rw [← mid_set hx, show rowsE (w ++ [awE mem x]) = rowsE w ++ [rowE (awE mem x)] by simp [rowsE]]
          exact congrArg (fun q => [(0, c0), (1, cR cnt fdr hop mem (.slc (.g 3) 5 0 l.length c)), (2, .row 5 (rowsE w ++ [rowE (awE mem x)])), (3, AB.row 5 q)]) (set_row (awE mem x))
  · refine .ghost (env' := [(2, .ref (.g 0) 0), (4, .ref (.g 1) 0), (5, .d (.list 5 (rowsE w))), (6, .d (.int .i64 (i : Int)))]) (s' := [(0, c0), (1, cR cnt fdr hop mem (.slc (.g 2) 5 0 l.length c)), (2, .row 5 (rowsE (l.map (awE mem))))]) ?_ (.go wk10 [] ?_)
    · have hil2 : i = l.length := by omega
      subst hil2
      have hrl := rowsE_len w
      rcases hout with ⟨rfl, rfl, rfl⟩ | ⟨wc, hwc, rfl, rfl⟩
      · rw [List.take_length, List.drop_length, List.append_nil]
        exact GV.wk 5 5
      · rw [List.take_length, List.drop_length, List.append_nil]
        refine GV.trans (GV.freeze 2 rfl (by simp) (by repeat' first | exact trivial | apply And.intro | decide | (simp; done) | omega) (by repeat' first | exact trivial | apply And.intro)) (GV.tidied [2, 4, 5, 6] ?_)
        conv => whnf
        rw [List.drop_zero, List.take_of_length_le (by omega)]
        exact ⟨rfl, rfl⟩
    have hdec : decide ((i : Int) < (l.length : Int)) = false := decide_eq_false (by omega)
    conv => whnf
    rw [hdec]
    conv => whnf
    rw [List.take_of_length_le hil] at hw
    exact ⟨c, hc, by rw [hw], rfl⟩
/-- As data. -/
theorem award10 (cnt fdr hop : Int) (mem : List Int) (hm : mem.length ≤ 100000) (l : List En) (hl : l.length ≤ 1000) (hb : ∀ e ∈ l, e.bids.length ≤ 100000) (hv : AwOK l) : Contract Tryz.prog G0 10 [awG cnt fdr hop mem l] [] (fun r t => r = .tup [awG cnt fdr hop mem (l.map (awE mem)), .d (.list 5 (rowsE (wonL mem l)))] ∧ t = []) := by
  cases l with
  | nil => exact award10_nil cnt fdr hop mem hm
  | cons e0 l0 =>
    refine (award10_cons cnt fdr hop mem hm e0 l0 (by simpa using hl) hb hv).told fun r t hr => ?_
    obtain ⟨c, hc, rfl, rfl⟩ := hr
    refine ⟨.tup [awG cnt fdr hop mem ((e0 :: l0).map (awE mem)), .d (.list 5 (rowsE (wonL mem (e0 :: l0))))], ?_, rfl, rfl, rfl⟩
    have hrl := rowsE_len ((e0 :: l0).map (awE mem))
    have hrl2 : ((e0 :: l0).map (awE mem)).length = l0.length + 1 := by simp
    refine GV.trans (GV.freeze 0 rfl (by simp) (by repeat' first | exact trivial | apply And.intro | decide | (simp; done) | omega) (by repeat' first | exact trivial | apply And.intro)) (GV.tidied [0] ?_)
    conv => whnf
    rw [List.drop_zero, List.take_of_length_le (by omega)]
    exact ⟨rfl, rfl⟩
end Go.Proofs.YtkenimmellonjaaGreat
/- Seat Z: the reference adds what is lit: plain laws. -/
namespace Go.Proofs.YtkenimmellonjaaGreat
open Go.Pv Go.RowKit Go.Shelf
def lsK (x y : Kt) : Bool := bif decide (x.1 < y.1) then true else bif x.1 == y.1 then decide (x.2.1 < y.2.1) else false
/-- How many stand ahead of where it belongs, behind its likes. -/
def leK (l : List Kt) (x : Kt) : Nat := (l.takeWhile fun y => !lsK x y).length
theorem lsK_iff (x y : Kt) : lsK x y = true ↔ cK x y < 0 := by
  unfold cK
  rw [cmp_neg]
  show (bif decide (x.1 < y.1) then true else bif x.1 == y.1 then decide (x.2.1 < y.2.1) else false) = true ↔ _
  by_cases h : x.1 < y.1
  · simp [h]
  · by_cases h2 : x.1 = y.1
    · simp [h2]
    · simp [h, h2]
theorem tw_eq {α : Type} {q : α → Bool} : ∀ {l : List α} {k : Nat}, (∀ e ∈ l.take k, q e = true) → k ≤ l.length → (∀ x, l[k]? = some x → q x = false) → (l.takeWhile q).length = k
  | [], k, _, hk, _ => by
    have : k = 0 := by simpa using hk
    subst this
    rfl
  | x :: r, 0, _, _, h => by
    rw [List.takeWhile_cons, h x rfl]
    rfl
  | x :: r, k + 1, h1, hk, h => by
    rw [List.takeWhile_cons, h1 x (List.mem_cons_self ..)]
    show (r.takeWhile q).length + 1 = k + 1
    rw [tw_eq (k := k) (fun e he => h1 e (List.mem_cons_of_mem _ he)) (by simpa using hk) fun y hy => h y hy]
theorem tw_take {α : Type} {q : α → Bool} : ∀ (l : List α), ∀ e ∈ l.take (l.takeWhile q).length, q e = true
  | [], e, h => by simp at h
  | x :: r, e, h => by
    rw [List.takeWhile_cons] at h
    cases hq : q x with
    | false => rw [hq] at h; simp at h
    | true =>
      rw [hq] at h
      have h : e ∈ x :: r.take (r.takeWhile q).length := h
      rcases List.mem_cons.1 h with rfl | h
      · exact hq
      · exact tw_take r e h
theorem tw_at {α : Type} {q : α → Bool} : ∀ (l : List α) {x : α}, l[(l.takeWhile q).length]? = some x → q x = false
  | [], x, h => by simp at h
  | y :: r, x, h => by
    rw [List.takeWhile_cons] at h
    cases hq : q y with
    | false => rw [hq] at h; cases h; exact hq
    | true =>
      rw [hq] at h
      have h : r[(r.takeWhile q).length]? = some x := h
      exact tw_at r h
theorem tw_len {α : Type} (q : α → Bool) (l : List α) : (l.takeWhile q).length ≤ l.length := (List.takeWhile_sublist _).length_le
theorem tw_cons {α : Type} (q : α → Bool) (x : α) (l : List α) : ((x :: l).takeWhile q).length = if q x = true then (l.takeWhile q).length + 1 else 0 := by
  rw [List.takeWhile_cons]
  split <;> simp_all
def insP (l : List Kt) (x : Kt) : List Kt := l.take (leK l x) ++ x :: l.drop (leK l x)
theorem insP_len (l : List Kt) (x : Kt) : (insP l x).length = l.length + 1 := by
  have := tw_len (fun y => !lsK x y) l
  unfold insP leK
  simp only [List.length_append, List.length_take, List.length_cons, List.length_drop]
  omega
theorem insP_ok {l : List Kt} (h : Srt cK l) (x : Kt) : Srt cK (insP l x) ∧ Stb cK (l ++ [x]) (insP l x) := by
  unfold insP
  have h1 : ∀ e ∈ l.take (leK l x), ¬ cK x e < 0 := fun e he => by
    have h3 := tw_take l e he
    intro h2
    rw [(lsK_iff x e).2 h2] at h3
    cases h3
  have h2 : ∀ e ∈ l.drop (leK l x), cK x e < 0 := fun e he => by
    obtain ⟨j, hj, hje⟩ := mem_drop he
    have hjl := (List.getElem?_eq_some_iff.1 hje).1
    obtain ⟨y, hy, _⟩ := at_i (show leK l x < l.length by omega)
    have h3 : (!lsK x y) = false := tw_at l hy
    exact cK_ord.lt_le ((lsK_iff x y).1 (not_f h3)) (srt_get cK_ord h hj hy hje)
  have hsp : l = l.take (leK l x) ++ l.drop (leK l x) := (List.take_append_drop ..).symm
  generalize l.take (leK l x) = A at h1 hsp ⊢
  generalize l.drop (leK l x) = B at h2 hsp ⊢
  subst hsp
  refine ⟨Srt.app h.left (List.pairwise_cons.2 ⟨fun e he => cK_ord.asm _ _ (h2 e he), h.right⟩) fun a ha b hb => ?_, ?_⟩
  · rcases List.mem_cons.1 hb with rfl | hb
    · exact h1 a ha
    · exact h.cross a ha b hb
  · have := Stb.app (Stb.refl cK A) (Stb.swap cK_ord (U := B) (V := [x]) fun u hu v hv => by rw [List.mem_singleton.1 hv]; exact h2 u hu)
    rw [← List.append_assoc] at this
    exact this
def sortP (l : List Kt) : List Kt := l.foldl insP []
theorem sortP_ok (l : List Kt) : sortP l = sortK cK l := by
  have key : ∀ (l acc : List Kt), Srt cK acc → Srt cK (l.foldl insP acc) ∧ Stb cK (acc ++ l) (l.foldl insP acc) := by
    intro l
    induction l with
    | nil => intro acc h; exact ⟨h, by rw [List.append_nil]; exact Stb.refl _ _⟩
    | cons x r ih =>
      intro acc h
      obtain ⟨h1, h2⟩ := insP_ok h x
      obtain ⟨h3, h4⟩ := ih (insP acc x) h1
      refine ⟨h3, ?_⟩
      have := (Stb.app h2 (Stb.refl cK r)).trans h4
      rw [List.append_assoc] at this
      exact this
  obtain ⟨h1, h2⟩ := key l [] List.Pairwise.nil
  exact Srt.uniq cK_ord (sortK_srt cK_ord l) h1 fun k => (h2 k).trans (sortK_stb cK_ord l k).symm
theorem sortP_snoc {l : List Kt} {i : Nat} {x : Kt} (hx : l[i]? = some x) : sortP (l.take (i + 1)) = insP (sortP (l.take i)) x := by
  rw [List.take_add_one, hx]
  simp [sortP]
theorem sortP_len (l : List Kt) : (sortP l).length = l.length := by rw [sortP_ok, sortK_len]
/-- How many entries stand ahead of a call. -/
def gtK (k : Kt) (e : En) : Bool := bif decide (e.fl < k.1) then true else bif e.fl == k.1 then decide (e.dr < k.2.1) else false
def gtN (l : List En) (k : Kt) : Nat := (l.takeWhile (gtK k)).length
theorem gtK_iff (k : Kt) (e : En) : gtK k e = true ↔ e.fl < k.1 ∨ (e.fl = k.1 ∧ e.dr < k.2.1) := by
  unfold gtK
  by_cases h : e.fl < k.1
  · simp [h]
  · by_cases h2 : e.fl = k.1
    · simp [h2]
    · simp [h, h2]
theorem insE_tw {l : List En} {k : Kt} (hn : ∀ e ∈ l, callE e ≠ callK k) : insE k l = l.take (gtN l k) ++ newE k :: l.drop (gtN l k) := by
  obtain ⟨a, b, h1, h2, h3, h4⟩ := insE_eq k l
  have hg : gtN l k = a.length := by
    refine tw_eq (fun e he => ?_) (by rw [h1]; simp) fun x hx => ?_
    · rw [h1, List.take_left' rfl] at he
      have h5 : ¬ (lessK k e = true) := by rw [h3 e he]; decide
      rw [lessK_iff] at h5
      have h6 : ¬ (e.fl = k.1 ∧ e.dr = k.2.1) := fun h => hn e (by rw [h1]; exact List.mem_append_left _ he) (by unfold callE callK; rw [h.1, h.2])
      rw [gtK_iff]
      omega
    · rw [h1, List.getElem?_append_right (Nat.le_refl _), Nat.sub_self] at hx
      cases b with
      | nil => cases hx
      | cons y b' =>
        cases hx
        have h5 := (lessK_iff k _).1 (h4 _ _ rfl)
        cases hq : gtK k x with
        | false => rfl
        | true =>
          have := (gtK_iff k x).1 hq
          omega
  rw [h2, hg, h1, List.take_left' rfl, List.drop_left' rfl]
theorem addL_full {l : List En} (h : 128 ≤ l.length) : ∀ (ks : List Kt), addL l ks = l
  | [] => rfl
  | k :: r => by
    show addL (addE l k) r = l
    have : addE l k = l := by
      unfold addE skipE
      rw [decide_eq_true (show (l.length : Int) ≥ 128 by omega)]
      rfl
    rw [this]
    exact addL_full h r
end Go.Proofs.YtkenimmellonjaaGreat
