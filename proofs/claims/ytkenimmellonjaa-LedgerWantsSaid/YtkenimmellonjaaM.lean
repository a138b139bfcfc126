/- Seat r2: when a ring is founded. -/
import Derived.Test.YtkenimmellonjaaK
import Derived.Test.YtkenimmellonjaaSp
namespace Go.Proofs.Ytkenimmellonjaa
open Go.Pv Go.RowKit Go.Shelf

abbrev cV (car cars : Int) (out any : Bool) (alive ring : List Int) (since fnd : Int) : AV := .agg [.d (.int .i64 car), .d (.int .i64 cars), .d (.bool out), .d (.bool any), .d (.list 1 (rowsI alive)), .d (.list 1 (rowsI ring)), .d (.int .i64 since), .d (.int .i64 fnd)]
def patI (n : Int) : Int := IntKind.i64.wrap (IntKind.i64.wrap (4 * n) + 8)
def membI (l : List Int) (x : Int) : List Int := setI (l ++ [x])
def headI (l : List Int) : Int := (l[0]?).getD 0
def shouldI (car cars : Int) (out any : Bool) (alive ring : List Int) (since fnd : Int) : Bool :=
  bif (bif (bif out then true else !(headI (membI alive car) == car)) then true else decide (fnd ≤ patI cars)) then false else (bif (bif !any then true else !(ring == membI alive car)) then true else decide (since > patI cars))

theorem pat37 (n : Int) : Contract Try.prog G0 37 [.d (.int .i64 n)] [] (fun r t => r = .d (.int .i64 (patI n)) ∧ t = []) := by
  refine run37 0 [] rfl rfl ?_
  conv => whnf
  exact ⟨rfl, rfl⟩
theorem pat38 (n : Int) : Contract Try.prog G0 38 [.d (.int .i64 n)] [] (fun r t => r = .d (.int .i64 (patI n)) ∧ t = []) := by
  refine run38 0 [] rfl rfl ?_
  conv => whnf
  exact ⟨rfl, rfl⟩
theorem membI_eq (l : List Int) (x : Int) : putI (setI l) x = membI l x :=
  inc_eq (putI_inc (setI_inc l) x) (setI_inc _) fun y => by rw [putI_mem, membI, setI_mem, setI_mem, List.mem_append, List.mem_singleton, or_comm]
theorem membI_len (l : List Int) (x : Int) : (membI l x).length ≤ l.length + 1 := by have := setI_len (l ++ [x]); simpa [membI] using this
theorem membI_ne (l : List Int) (x : Int) : 0 < (membI l x).length := List.length_pos_of_mem (a := x) (by rw [membI, setI_mem]; simp)
theorem memb36 (car cars : Int) (out any : Bool) (alive ring : List Int) (since fnd : Int) (hl : alive.length ≤ 1000) : Contract Try.prog G0 36 [cV car cars out any alive ring since fnd] [] (fun r t => r = .d (.list 1 (rowsI (membI alive car))) ∧ t = []) := by
  refine run36 0 [] rfl rfl ?_
  conv => whnf
  refine .data [.d (.list 1 (rowsI alive))] _ ⟨WkL.refl _, rfl, set40 _ (by omega)⟩ ?_
  rw [set6_eq]
  have := setI_len alive
  conv => whnf
  refine .data [.d (.list 1 (rowsI (setI alive))), .d (.int .i64 car)] _ ⟨WkL.refl _, rfl, put39 _ car (by omega)⟩ ?_
  rw [membI_eq]
  conv => whnf
  exact ⟨rfl, rfl⟩
set_option maxRecDepth 100000 in
theorem memb35 (car cars : Int) (out any : Bool) (alive ring : List Int) (since fnd : Int) (hl : alive.length ≤ 1000) : Contract Try.prog G0 35 [cV car cars out any alive ring since fnd] [] (fun r t => r = .d (.list 1 (rowsI (membI alive car))) ∧ t = []) := by
  refine run35 0 [1] rfl rfl ?_
  conv => whnf
  refine StopG.draw wk35 [] sp35_1 [2] (fun env s => env = [(2, .d (.list 1 (rowsI (membI alive car))))] ∧ s = []) rfl rfl (by kernel_rfl) ?_ ?_
  · cases alive with
    | nil =>
      have hso : ∀ cap, Contract Try.prog G0 19 [.slc (.g 0) 1 0 1 cap] [(0, .row 1 [[.int .i64 car]])] (fun r t => r = .d (.list 1 (rowsI (membI [] car))) ∧ t = [(0, .dead)]) := fun cap => set19_own [car] (by simp) cap
      conv => whnf
      repeat' (first
        | (refine Both.mk ?_ ?_ <;> conv => whnf)
        | (refine .obj rfl ?_; (conv => whnf); refine ⟨_, _, ⟨WkL.refl _, clone_nil⟩, fun res s1 h => ?_⟩; obtain ⟨h, rfl⟩ := h; rcases h with rfl | rfl <;> conv => whnf)
        | (refine .obj rfl ?_; (conv => whnf); refine ⟨_, _, ⟨WkL.refl _, hso _⟩, fun res s1 h => ?_⟩; obtain ⟨rfl, rfl⟩ := h; (conv => whnf); exact ⟨rfl, rfl⟩)
        | (refine ⟨⟨show (2 * 1 + 1024) * 8 ≤ 281474976710656 by omega, show 1 ≤ 4611686018427387904 by omega⟩, ?_⟩; (conv => whnf); intro c2 hc2; conv => whnf))
    | cons x r =>
      have hrl := rowsI_len r
      have hl : r.length + 1 ≤ 1000 := by simpa using hl
      have hcl := clone_cons (rowI x) (rowsI r) (by rw [hrl]; omega)
      have hso : ∀ cap, Contract Try.prog G0 19 [.slc (.g 0) 1 0 ((rowsI r).length + 1 + 1) cap] [(0, .row 1 (List.take ((rowsI r).length + 1) (rowI x :: rowsI r) ++ [[.int .i64 car]]))] (fun q t => q = .d (.list 1 (rowsI (membI (x :: r) car))) ∧ t = [(0, .dead)]) := fun cap => by
        have := set19_own (x :: r ++ [car]) (by simp; omega) cap
        have e1 : List.take ((rowsI r).length + 1) (rowI x :: rowsI r) ++ [[DV.int .i64 car]] = rowsI (x :: r ++ [car]) := by
          rw [List.take_of_length_le (by simp)]
          simp [rowsI, rowI]
        have e2 : (rowsI r).length + 1 + 1 = (x :: r ++ [car]).length := by
          rw [hrl]
          simp
        rw [e1, e2]
        exact this
      conv => whnf
      repeat' (first
        | (refine Both.mk ?_ ?_ <;> conv => whnf)
        | (refine .obj rfl ?_; (conv => whnf); refine ⟨_, _, ⟨WkL.refl _, hcl⟩, fun res s1 h => ?_⟩; obtain ⟨cc, hcc, rfl, rfl⟩ := h; conv => whnf)
        | (refine .obj rfl ?_; (conv => whnf); refine ⟨_, _, ⟨WkL.refl _, hso _⟩, fun res s1 h => ?_⟩; obtain ⟨rfl, rfl⟩ := h; (conv => whnf); exact ⟨rfl, rfl⟩)
        | (refine ⟨by simp, ⟨?_, ?_⟩, ?_⟩; (show (2 * ((rowsI r).length + 1 + 1) + 1024) * 8 ≤ 281474976710656; omega); (show (rowsI r).length + 1 + 1 ≤ _; omega); (conv => whnf); intro c2 hc2; conv => whnf))
  · rintro env s ⟨rfl, rfl⟩
    conv => whnf
    exact ⟨rfl, rfl⟩
theorem head_least {l : List Int} (h : IncI l) (hn : 0 < l.length) : leastI l = (headI l, true) := by
  cases l with
  | nil => simp at hn
  | cons x r =>
    have := least_head (l := x :: r) rfl h (fun _ => Iff.rfl) (a := x) rfl
    simp [leastI, headI, this]
theorem membI_inc (l : List Int) (x : Int) : IncI (membI l x) := setI_inc _
theorem least_memb (l : List Int) (x : Int) : leastI (membI l x) = (headI (membI l x), true) := head_least (membI_inc l x) (membI_ne l x)
set_option maxRecDepth 100000 in
theorem should32 (car cars : Int) (out any : Bool) (alive ring : List Int) (since fnd : Int) (hl : alive.length ≤ 1000) (hr : ring.length ≤ 100000) : Contract Try.prog G0 32 [cV car cars out any alive ring since fnd] [] (fun r t => r = .d (.bool (shouldI car cars out any alive ring since fnd)) ∧ t = []) := by
  refine run32 0 [] rfl rfl ?_
  conv => whnf
  refine .data [cV car cars out any alive ring since fnd] _ ⟨WkL.refl _, rfl, memb35 car cars out any alive ring since fnd hl⟩ ?_
  have hml := membI_len alive car
  have hle := least_memb alive car
  have hsh : shouldI car cars out any alive ring since fnd = bif (bif (bif out then true else !(headI (membI alive car) == car)) then true else decide (fnd ≤ patI cars)) then false else (bif (bif !any then true else !(ring == membI alive car)) then true else decide (since > patI cars)) := rfl
  generalize membI alive car = m at hml hle hsh
  conv => whnf
  refine .scal [.d (.list 1 (rowsI m))] _ ⟨.refl _, rfl, least42 m (by omega)⟩ ?_
  rw [hle]
  conv => whnf
  refine .scal [.d (.int .i64 cars)] _ (fun _ => ⟨.refl _, rfl, pat37 cars⟩) ?_
  conv => whnf
  refine bcase_intro (fun h => ?_) (fun h => ?_) <;> conv => whnf
  · refine ⟨rd_bool ?_, rfl⟩
    rw [hsh]
    rw [show (bif (bif (bif out then true else !(headI m == car)) then true else decide (fnd ≤ patI cars)) then false else (bif (bif !any then true else !(ring == m)) then true else decide (since > patI cars))) = false by
      rw [show (bif (bif out then true else !(headI m == car)) then true else decide (fnd ≤ patI cars)) = true from h]; rfl]
  · refine .scal [.d (.list 1 (rowsI ring)), .d (.list 1 (rowsI m))] _ (fun _ => ⟨.refl _, rfl, same22 ring m (by omega)⟩) ?_
    conv => whnf
    refine .scal [.d (.int .i64 cars)] _ (fun _ => ⟨.refl _, rfl, pat37 cars⟩) ?_
    conv => whnf
    refine ⟨rd_bool ?_, rfl⟩
    rw [hsh]
    rw [show (bif (bif out then true else !(headI m == car)) then true else decide (fnd ≤ patI cars)) = false from h]
    rfl
set_option maxRecDepth 100000 in
theorem should33 (car cars : Int) (out any : Bool) (alive ring : List Int) (since fnd : Int) (hl : alive.length ≤ 1000) (hr : ring.length ≤ 100000) : Contract Try.prog G0 33 [cV car cars out any alive ring since fnd] [] (fun r t => r = .d (.bool (shouldI car cars out any alive ring since fnd)) ∧ t = []) := by
  refine run33 0 [] rfl rfl ?_
  conv => whnf
  refine .data [cV car cars out any alive ring since fnd] _ ⟨WkL.refl _, rfl, memb36 car cars out any alive ring since fnd hl⟩ ?_
  have hml := membI_len alive car
  have hne := membI_ne alive car
  have hsh : shouldI car cars out any alive ring since fnd = bif (bif (bif out then true else !(headI (membI alive car) == car)) then true else decide (fnd ≤ patI cars)) then false else (bif (bif !any then true else !(ring == membI alive car)) then true else decide (since > patI cars)) := rfl
  generalize membI alive car = m at hml hne hsh
  conv => whnf
  obtain ⟨x, hx⟩ := list_has m 0 hne
  have hh : headI m = x := by simp [headI, hx]
  refine ⟨rowI x, fun _ => ⟨by decide, by simp [rowsI, hx]⟩, ?_⟩
  rw [← hh]
  conv => whnf
  refine .scal [.d (.int .i64 cars)] _ (fun _ => ⟨.refl _, rfl, pat38 cars⟩) ?_
  conv => whnf
  refine bcase_intro (fun h => ?_) (fun h => ?_) <;> conv => whnf
  · refine ⟨rd_bool ?_, rfl⟩
    rw [hsh]
    rw [show (bif (bif (bif out then true else !(headI m == car)) then true else decide (fnd ≤ patI cars)) then false else (bif (bif !any then true else !(ring == m)) then true else decide (since > patI cars))) = false by
      rw [show (bif (bif out then true else !(headI m == car)) then true else decide (fnd ≤ patI cars)) = true from h]; rfl]
  · refine .scal [.d (.list 1 (rowsI ring)), .d (.list 1 (rowsI m))] _ (fun _ => ⟨.refl _, rfl, sameInts34 ring m (by omega)⟩) ?_
    conv => whnf
    refine .scal [.d (.int .i64 cars)] _ (fun _ => ⟨.refl _, rfl, pat38 cars⟩) ?_
    conv => whnf
    refine ⟨rd_bool ?_, rfl⟩
    rw [hsh]
    rw [show (bif (bif out then true else !(headI m == car)) then true else decide (fnd ≤ patI cars)) = false from h]
    rfl
theorem first31 : Contract Try.prog G0 31 [] [] (fun r t => r = .d (.bool true) ∧ t = []) := by
  refine run31 0 [] rfl rfl ?_
  conv => whnf
  refine .scal [cV 0 0 true false [] [] 0 1000] _ ⟨.a (.s _ (.s _ (.s _ (.s _ (.n 1 (.n 1 (.s _ (.s _ .nil)))))))) .nil, rfl, should32 0 0 true false [] [] 0 1000 (by simp) (by simp)⟩ ?_
  conv => whnf
  refine .scal [.d (.int .i64 1)] _ (fun _ => ⟨.refl _, rfl, pat37 1⟩) ?_
  conv => whnf
  exact ⟨rfl, rfl⟩
set_option maxRecDepth 100000 in
theorem foundSays (car cars : Int) (out any : Bool) (alive ring : List Int) (since fnd : Int) : Contract Try.prog G0 6 [cV car cars out any alive ring since fnd] [] (fun r t => r = .d (.bool true) ∧ t = []) := by
  have hla := rowsI_len alive
  have hlr := rowsI_len ring
  refine run6 0 [] rfl rfl ?_
  conv => whnf
  refine .scal [] _ ⟨.refl _, rfl, first31⟩ ?_
  conv => whnf
  refine bcase_intro (fun h => ?_) (fun h => ?_) <;> conv => whnf
  · exact ⟨rfl, rfl⟩
  have hl : alive.length ≤ 20 ∧ ring.length ≤ 20 := by
    rw [hla, hlr] at h
    rcases Nat.lt_or_ge 20 alive.length with h1 | h1
    · rw [decide_eq_true (show (alive.length : Int) > 20 by omega)] at h
      cases h
    · rcases Nat.lt_or_ge 20 ring.length with h2 | h2
      · rw [decide_eq_true (show (ring.length : Int) > 20 by omega)] at h
        cases hb : decide ((alive.length : Int) > 20) <;> rw [hb] at h <;> cases h
      · exact ⟨h1, h2⟩
  refine .scal [cV car cars out any alive ring since fnd] _ (fun _ => ⟨.refl _, rfl, should32 car cars out any alive ring since fnd (by omega) (by omega)⟩) ?_
  conv => whnf
  refine .scal [cV car cars out any alive ring since fnd] _ (fun _ => ⟨.refl _, rfl, should33 car cars out any alive ring since fnd (by omega) (by omega)⟩) ?_
  conv => whnf
  refine .data [cV car cars out any alive ring since fnd] _ (fun _ => ⟨WkL.refl _, rfl, memb35 car cars out any alive ring since fnd (by omega)⟩) ?_
  conv => whnf
  refine .data [cV car cars out any alive ring since fnd] _ (fun _ => ⟨WkL.refl _, rfl, memb36 car cars out any alive ring since fnd (by omega)⟩) ?_
  conv => whnf
  have := membI_len alive car
  refine .scal [.d (.list 1 (rowsI (membI alive car))), .d (.list 1 (rowsI (membI alive car)))] _ (fun _ => ⟨.refl _, rfl, sameInts34 _ _ (by omega)⟩) ?_
  conv => whnf
  refine .scal [.d (.int .i64 cars)] _ (fun _ => ⟨.refl _, rfl, pat37 cars⟩) ?_
  conv => whnf
  refine .scal [.d (.int .i64 cars)] _ (fun _ => ⟨.refl _, rfl, pat38 cars⟩) ?_
  conv => whnf
  refine ⟨rd_bool ?_, rfl⟩
  simp
end Go.Proofs.Ytkenimmellonjaa
