/- The seat's texts, part 5: what single functions of the program compute; no statement of its own. -/
import Derived.Test.YtkenimmellonjaaGreatGD
import Derived.Test.YtkenimmellonjaaGreatGB
import Derived.Test.YtkenimmellonjaaGreatGC
/- Seat Z: the reference adds what is lit: the walk. -/
namespace Go.Proofs.YtkenimmellonjaaGreat
open Go.Pv Go.RowKit Go.Shelf
/-- Entries, their bids told however. -/
def rowX (p : En × DV) : List DV := [.int .i64 p.1.fl, .int .i64 p.1.dr, .int .i64 p.1.gn, p.2, .int .i64 p.1.aw]
def rowsX (l : List (En × DV)) : List (List DV) := l.map rowX
theorem rowsX_len (l : List (En × DV)) : (rowsX l).length = l.length := by simp [rowsX]
abbrev fsX (l : List (En × DV)) : List En := l.map Prod.fst
def OkX (l : List (En × DV)) : Prop := ∀ p ∈ l, WkD p.2 (.list 2 (rowsB p.1.bids))
theorem wkX {l : List (En × DV)} (h : OkX l) : WkD (.list 5 (rowsX l)) (.list 5 (rowsE (fsX l))) := by
  refine WkD.list (by rw [rowsE_len, rowsX_len, fsX, List.length_map]) fun i r r' hr hr' => ?_
  unfold rowsX at hr
  unfold rowsE at hr'
  rw [List.getElem?_map] at hr hr'
  rw [List.getElem?_map] at hr'
  cases hp : l[i]? with
  | none => rw [hp] at hr; cases hr
  | some p =>
    rw [hp] at hr hr'
    cases hr
    cases hr'
    refine ⟨rfl, fun j x y hx hy => ?_⟩
    match j, hx, hy with
    | 0, hx, hy => cases hx; cases hy; exact WkD.refl _
    | 1, hx, hy => cases hx; cases hy; exact WkD.refl _
    | 2, hx, hy => cases hx; cases hy; exact WkD.refl _
    | 3, hx, hy => cases hx; cases hy; exact h p (List.mem_of_getElem? hp)
    | 4, hx, hy => cases hx; cases hy; exact WkD.refl _
    | j + 5, hx, hy => simp [rowX] at hx
theorem GV.told1 {cx : Ctx} {n : Nat} {a b : AV} (ha : a ≠ Pv.look [] 0) (h : ∀ (M : Mp) (F : Nat → Prop) (w : World) (v : Value), RV M F w a v → RV M F w b v) : GV cx n [(0, a)] [] [] [(0, b)] [] := by
  classical
  have := GV.weak (cx := cx) (n := n) (env := [(0, a)]) (s := []) (fun x => if x = a then b else x) (by rw [if_neg (Ne.symm ha)]) (fun M F w x v hx => by
    by_cases e : x = a
    · rw [if_pos e]; rw [e] at hx; exact h M F w v hx
    · rw [if_neg e]; exact hx)
  simpa using this
set_option maxHeartbeats 4000000 in
set_option maxRecDepth 100000 in
theorem add18X (cnt fdr hop : Int) (mem : List Int) (hm : mem.length ≤ 100000) (l : List En) (hl : l.length ≤ 1000) (hb : ∀ e ∈ l, e.bids.length ≤ 100000) (ks : List Kt) (hk : ks.length ≤ 1000) :
    Contract Tryz.prog G0 18 [awG cnt fdr hop mem l, .d (.list 3 (rowsK ks))] [] (fun r t => ∃ Lx : List (En × DV), OkX Lx ∧ fsX Lx = addL l (sortK cK ks) ∧ r = rgV cnt fdr hop mem (.d (.list 5 (rowsX Lx))) ∧ t = []) := by
  have hkl := rowsK_len ks
  refine run18 0 [9] rfl rfl ?_
  conv => whnf
  refine .data [awG cnt fdr hop mem l] _ ⟨WkL.refl _, rfl, copyD cnt fdr hop mem hm l hl hb⟩ ?_
  conv => whnf
  refine StopG.roundsM wk18 [9] [1, 4, 5, 6, 7] (fun m env s => ∃ (i : Nat) (S : List Kt), i ≤ ks.length ∧ m = ks.length - i ∧ S = sortP (ks.take i) ∧
    env = [(1, .d (.list 3 (rowsK ks))), (4, .ref (.g 0) 0), (5, .ref (.g 1) 0), (6, .d (.list 3 (rowsK S))), (7, .d (.int .i64 (i : Int)))] ∧ s = [(0, c0), (1, cR cnt fdr hop mem (.d (.list 5 (rowsE l))))]) rfl ?_ ?_
  · refine ⟨_, _, GV.wk 6 3, ?_⟩
    conv => whnf
    exact ⟨_, 0, [], Nat.zero_le _, rfl, rfl, rfl, rfl⟩
  rintro m env s ⟨i, S, hi, rfl, hS, rfl, rfl⟩
  have hSl : S.length = i := by rw [hS, sortP_len, List.length_take]; omega
  have hSr := rowsK_len S
  conv => whnf
  refine bcase_intro (fun h => ?_) (fun h => ?_) <;> conv => whnf
  · have hil := lt_of h
    rw [hkl] at hil
    obtain ⟨x, hx, _⟩ := at_i hil
    have hSn := sortP_snoc hx
    rw [← hS] at hSn
    refine StopG.rounds wk18 [9] [1, 4, 5, 6, 7, 8] (fun m env s => ∃ k : Nat, k ≤ S.length ∧ m = S.length - k ∧ k + leK (S.drop k) x = leK S x ∧
      env = [(1, .d (.list 3 (rowsK ks))), (4, .ref (.g 0) 0), (5, .ref (.g 1) 0), (6, .d (.list 3 (rowsK S))), (7, .d (.int .i64 (i : Int))), (8, .d (.int .i64 (k : Int)))] ∧ s = [(0, c0), (1, cR cnt fdr hop mem (.d (.list 5 (rowsE l))))]) rfl ?_ ?_
    · conv => whnf
      exact ⟨_, 0, Nat.zero_le _, rfl, by simp, rfl, rfl⟩
    rintro m env s ⟨k, hkS, rfl, hle, rfl, rfl⟩
    conv => whnf
    obtain ⟨y, hy⟩ : ∃ y : Kt, y = (S[k]?).getD (0, 0, 0) := ⟨_, rfl⟩
    have hy2 : k < S.length → S[k]? = .some y := fun h0 => by rw [hy, List.getElem?_eq_getElem h0]; rfl
    refine ⟨rowK x, (fun _ => ⟨by omega, row_i hx⟩), ?_⟩
    conv => whnf
    refine ⟨rowK y, fun hg => ?_, ?_⟩
    · have h0 := lt_of (show decide ((k : Int) < ((rowsK S).length : Int)) = true from hg)
      exact ⟨by omega, row_i (hy2 (by omega))⟩
    conv => whnf
    refine .scal [calV x.1 x.2.1, calV y.1 y.2.1] _ (fun _ => ⟨.refl _, rfl, lessCall _ _ _ _⟩) ?_
    conv => whnf
    refine bcase_intro (fun h2 => ?_) (fun h2 => ?_) <;> conv => whnf
    · rw [bif_and, Bool.and_eq_true] at h2
      have hkl2 := lt_of h2.1
      rw [hSr] at hkl2
      have h3 : (!lsK x y) = true := h2.2
      obtain ⟨z, hz, hd⟩ := at_i hkl2
      rw [hy2 hkl2] at hz
      cases hz
      unfold leK at hle
      rw [hd, tw_cons, if_pos h3] at hle
      rw [succ_i hkl2 (by omega)]
      refine ⟨_, by omega, k + 1, hkl2, rfl, ?_, rfl, rfl⟩
      unfold leK
      omega
    · have hkn : k = leK S x := by
        rcases Nat.lt_or_ge k S.length with h1 | h1
        · obtain ⟨z, hz, hd⟩ := at_i h1
          rw [hy2 h1] at hz
          cases hz
          unfold leK at hle
          rw [hd, tw_cons] at hle
          have h3 : ¬ (!lsK x y) = true := by
            intro h3
            rw [hSr, decide_eq_true (show (k : Int) < (S.length : Int) by omega)] at h2
            have h2 : (!lsK x y) = false := h2
            rw [h2] at h3
            cases h3
          rw [if_neg h3] at hle
          unfold leK
          omega
        · rw [List.drop_eq_nil_of_le h1] at hle
          simpa [leK] using hle
      have hnx : insP S x = S.take k ++ x :: S.drop k := by unfold insP; rw [← hkn]
      have e1 : List.drop (Int.toNat 0) (List.take ((k : Int)).toNat (rowsK S)) = rowsK (S.take k) := by simp [rowsK, List.map_take]
      have e2 : (S.take k).length = k := by rw [List.length_take]; omega
      have hin := latchs60 (S.take k) (by omega)
      have e3 := rowsK_len (S.take k)
      rw [e2] at hin e3
      have e6 : List.take k (rowsK (S.take k)) ++ [rowK x] = rowsK (S.take k ++ [x]) := by
        rw [List.take_of_length_le (by omega)]
        simp [rowsK]
      have hrow : [(0, c0), (1, cR cnt fdr hop mem (.d (.list 5 (rowsE l)))), (2, AB.row 3 (List.take k (rowsK (S.take k)) ++ [rowK x]))] = [(0, c0), (1, cR cnt fdr hop mem (.d (.list 5 (rowsE l)))), (2, AB.row 3 (rowsK (S.take k ++ [x])))] := by rw [e6]
      refine StopG.draw wk18 [9] sp18_9 [1, 4, 5, 6, 7, 8, 9] (fun env s => ∃ c2, k + 1 ≤ c2 ∧ env = [(1, .d (.list 3 (rowsK ks))), (4, .ref (.g 0) 0), (5, .ref (.g 1) 0), (6, .d (.list 3 (rowsK S))), (7, .d (.int .i64 (i : Int))), (8, .d (.int .i64 (k : Int))), (9, .slc (.g 2) 3 0 (k + 1) c2)] ∧ s = [(0, c0), (1, cR cnt fdr hop mem (.d (.list 5 (rowsE l)))), (2, AB.row 3 (rowsK (S.take k ++ [x])))]) rfl rfl (by kernel_rfl) ?_ ?_
      · conv => whnf
        repeat' (first
          | (refine Both.mk ?_ ?_ <;> conv => whnf)
          | (refine ⟨⟨by omega, by omega, by omega⟩, ?_⟩; (conv => whnf); rw [e1])
          | (refine ⟨rowK x, ⟨by omega, row_i hx⟩, ?_⟩; conv => whnf)
          | (refine .obj rfl ?_; (conv => whnf); refine ⟨_, _, ⟨WkL.refl _, hin⟩, fun res s1 h => ?_⟩; obtain ⟨c, hc, rfl, rfl⟩ := h; conv => whnf)
          | (refine ⟨by omega, ⟨show (2 * (k + 1) + 1024) * 24 ≤ 281474976710656 by omega, show k + 1 ≤ 4611686018427387904 by omega⟩, ?_⟩; (conv => whnf); intro c2 hc2; conv => whnf)
          | exact ⟨_, by assumption, rfl, hrow⟩)
        all_goals (trace_state; sorry)
      rintro env s ⟨c2, hc2, rfl, rfl⟩
      conv => whnf
      refine ⟨⟨by omega, by omega, by omega⟩, ?_⟩
      conv => whnf
      have e4 : (List.drop ((k : Int)).toNat (List.take (((rowsK S).length : Int)).toNat (rowsK S))) = rowsK (S.drop k) := by rw [Int.toNat_natCast, Int.toNat_natCast, List.take_of_length_le (Nat.le_refl _)]; simp [rowsK]
      have e5 : (rowsK (S.drop k)).length = S.length - k := by rw [rowsK_len, List.length_drop]
      have e7 : (rowsK (S.take k ++ [x])).length = k + 1 := by rw [rowsK_len, List.length_append, e2]; rfl
      rw [e4]
      refine ⟨by omega, ⟨?_, ?_⟩, ?_⟩
      · show (2 * (k + 1 + (rowsK (S.drop k)).length) + 1024) * 24 ≤ 281474976710656; rw [e5]; omega
      · show k + 1 + (rowsK (S.drop k)).length ≤ _; rw [e5]; omega
      conv => whnf
      intro c3 hc3
      conv => whnf
      have e8 : List.take (k + 1) (rowsK (S.take k ++ [x])) ++ rowsK (S.drop k) = rowsK (insP S x) := by
        rw [List.take_of_length_le (by omega), hnx]
        simp [rowsK]
      have e9 : (rowsK (insP S x)).length = k + 1 + (rowsK (S.drop k)).length := by
        rw [rowsK_len, insP_len, e5]; omega
      rw [e8]
      refine ⟨_, _, GV.freeze 3 rfl (by simp) (by repeat' first | exact trivial | apply And.intro | decide | (simp; done) | omega) (by repeat' first | exact trivial | apply And.intro), ?_⟩
      conv => whnf
      rw [List.drop_zero, List.take_of_length_le (by omega), succ_i hil (by omega)]
      exact ⟨_, by omega, i + 1, insP S x, hil, rfl, hSn.symm, rfl, rfl⟩
  have hil := ge_of h
  rw [hkl] at hil
  rw [List.take_of_length_le hil, sortP_ok] at hS
  rw [← hS]
  have hSk : S.length ≤ 1000 := by omega
  refine StopG.roundsM wk18 [] [4, 5, 6, 10] (fun m env s => ∃ (a : Nat) (Lx : List (En × DV)), a ≤ S.length ∧ m = S.length - a ∧ OkX Lx ∧ Lx.length ≤ 2000 + a ∧ addL (fsX Lx) (S.drop a) = addL l S ∧
    env = [(4, .ref (.g 0) 0), (5, .ref (.g 1) 0), (6, .d (.list 3 (rowsK S))), (10, .d (.int .i64 (a : Int)))] ∧ s = [(0, c0), (1, cR cnt fdr hop mem (.d (.list 5 (rowsX Lx))))]) rfl ?_ ?_
  · refine ⟨_, _, .refl, ?_⟩
    conv => whnf
    refine ⟨_, 0, l.map fun e => (e, .list 2 (rowsB e.bids)), Nat.zero_le _, rfl, ?_, ?_, ?_, rfl, ?_⟩
    · intro p hp
      obtain ⟨e, _, rfl⟩ := List.mem_map.1 hp
      exact WkD.refl _
    · rw [List.length_map]; omega
    · rw [show fsX (l.map fun e => (e, .list 2 (rowsB e.bids))) = l by unfold fsX; rw [List.map_map]; exact List.map_id l]
      rfl
    · rw [show rowsX (l.map fun e => (e, .list 2 (rowsB e.bids))) = rowsE l by unfold rowsX rowsE; rw [List.map_map]; rfl]
  rintro m env s ⟨a, Lx, ha, rfl, hok, hLl, hadd, rfl, rfl⟩
  have hLr := rowsX_len Lx
  conv => whnf
  refine bcase_intro (fun h => ?_) (fun h => ?_) <;> conv => whnf
  · rw [bif_and, Bool.and_eq_true] at h
    have haS := lt_of h.1
    rw [hSr] at haS
    have hL128 : Lx.length < 128 := by
      have := of_decide_eq_true h.2
      omega
    obtain ⟨x, hx, hd⟩ := at_i haS
    rw [hd] at hadd
    have hadd : addL (addE (fsX Lx) x) (S.drop (a + 1)) = addL l S := hadd
    have hLm : (fsX Lx).length = Lx.length := by rw [List.length_map]
    refine ⟨rowK x, ⟨by omega, row_i hx⟩, ?_⟩
    conv => whnf
    refine .data [awG cnt fdr hop mem (fsX Lx), calV x.1 x.2.1] _ ⟨.a (.s _ (.s _ (.s _ (.s _ (.w (wkX hok) .nil))))) (.refl _), rfl, place35 cnt fdr hop mem (fsX Lx) (by omega) x.1 x.2.1⟩ ?_
    conv => whnf
    refine bcase_intro (fun hp => ?_) (fun hp => ?_) <;> conv => whnf
    · have hsk : skipE (fsX Lx) x = true := by
        unfold skipE
        rw [hp]
        cases decide (((fsX Lx).length : Int) ≥ 128) <;> rfl
      unfold addE at hadd
      rw [hsk] at hadd
      refine ⟨_, _, .refl, ?_⟩
      conv => whnf
      rw [succ_i haS (by omega)]
      exact ⟨_, by omega, a + 1, Lx, haS, rfl, hok, by omega, hadd, rfl, rfl⟩
    have hsk : skipE (fsX Lx) x = false := by
      unfold skipE
      rw [hp, decide_eq_false (show ¬ (((fsX Lx).length : Int) ≥ 128) by omega)]
      rfl
    have hno := (skip_no hsk).2
    unfold addE at hadd
    rw [hsk] at hadd
    have hadd : addL (insE x (fsX Lx)) (S.drop (a + 1)) = addL l S := hadd
    rw [insE_tw hno] at hadd
    refine StopG.rounds wk18 [] [4, 5, 6, 10, 11] (fun m env s => ∃ k : Nat, k ≤ Lx.length ∧ m = Lx.length - k ∧ k + gtN ((fsX Lx).drop k) x = gtN (fsX Lx) x ∧
      env = [(4, .ref (.g 0) 0), (5, .ref (.g 1) 0), (6, .d (.list 3 (rowsK S))), (10, .d (.int .i64 (a : Int))), (11, .d (.int .i64 (k : Int)))] ∧ s = [(0, c0), (1, cR cnt fdr hop mem (.d (.list 5 (rowsX Lx))))]) rfl ?_ ?_
    · conv => whnf
      exact ⟨_, 0, Nat.zero_le _, rfl, by simp, rfl, rfl⟩
    rintro m env s ⟨k, hkL, rfl, hgt, rfl, rfl⟩
    conv => whnf
    obtain ⟨y, hy⟩ : ∃ y : En × DV, y = (Lx[k]?).getD (⟨0, 0, 0, [], 0⟩, .nil) := ⟨_, rfl⟩
    have hy2 : k < Lx.length → Lx[k]? = .some y := fun h0 => by rw [hy, List.getElem?_eq_getElem h0]; rfl
    refine ⟨rowX y, fun hg => ?_, ?_⟩
    · have h0 := lt_of (show decide ((k : Int) < ((rowsX Lx).length : Int)) = true from hg)
      exact ⟨by omega, row_i (hy2 (by omega))⟩
    conv => whnf
    refine ⟨rowK x, (fun _ => ⟨by omega, row_i hx⟩), ?_⟩
    conv => whnf
    refine .scal [calV y.1.fl y.1.dr, calV x.1 x.2.1] _ (fun _ => ⟨.refl _, rfl, lessCall _ _ _ _⟩) ?_
    conv => whnf
    refine bcase_intro (fun h2 => ?_) (fun h2 => ?_) <;> conv => whnf
    · rw [bif_and, Bool.and_eq_true] at h2
      have hkl2 := lt_of h2.1
      rw [hLr] at hkl2
      have h3 : gtK x y.1 = true := h2.2
      obtain ⟨z, hz, hd2⟩ := at_i (l := fsX Lx) (i := k) (by omega)
      rw [fsX, List.getElem?_map, hy2 hkl2] at hz
      cases hz
      unfold gtN at hgt
      rw [hd2, tw_cons, if_pos h3] at hgt
      rw [succ_i hkl2 (by omega)]
      refine ⟨_, by omega, k + 1, hkl2, rfl, ?_, rfl, rfl⟩
      unfold gtN
      omega
    have hkn : k = gtN (fsX Lx) x := by
      rcases Nat.lt_or_ge k Lx.length with h1 | h1
      · obtain ⟨z, hz, hd2⟩ := at_i (l := fsX Lx) (i := k) (by omega)
        rw [fsX, List.getElem?_map, hy2 h1] at hz
        cases hz
        unfold gtN at hgt
        rw [hd2, tw_cons] at hgt
        have h3 : ¬ gtK x y.1 = true := by
          intro h3
          rw [hLr, decide_eq_true (show (k : Int) < (Lx.length : Int) by omega)] at h2
          have h2 : gtK x y.1 = false := h2
          rw [h2] at h3
          cases h3
        rw [if_neg h3] at hgt
        unfold gtN
        omega
      · rw [List.drop_eq_nil_of_le (by omega)] at hgt
        simpa [gtN] using hgt
    rw [← hkn] at hadd
    have hnx : fsX (Lx.take k ++ (newE x, DV.nil) :: Lx.drop k) = (fsX Lx).take k ++ newE x :: (fsX Lx).drop k := by simp [fsX, List.map_take, List.map_drop]
    rw [← hnx] at hadd
    have hokn : OkX (Lx.take k ++ (newE x, DV.nil) :: Lx.drop k) := by
      intro p hp
      rcases List.mem_append.1 hp with hp | hp
      · exact hok p (List.mem_of_mem_take hp)
      · rcases List.mem_cons.1 hp with rfl | hp
        · exact WkD.nil 2
        · exact hok p (List.mem_of_mem_drop hp)
    have hlen2 : (Lx.take k ++ (newE x, DV.nil) :: Lx.drop k).length = Lx.length + 1 := by
      simp only [List.length_append, List.length_take, List.length_cons, List.length_drop]; omega
    refine ⟨⟨by omega, by omega, by omega⟩, ?_⟩
    conv => whnf
    have e1 : List.drop (Int.toNat 0) (List.take ((k : Int)).toNat (rowsX Lx)) = rowsX (Lx.take k) := by simp [rowsX, List.map_take]
    have e2 : (rowsX (Lx.take k)).length = k := by rw [rowsX_len, List.length_take]; omega
    have e3 : List.drop ((k : Int)).toNat (List.take (((rowsX Lx).length : Int)).toNat (rowsX Lx)) = rowsX (Lx.drop k) := by rw [Int.toNat_natCast, Int.toNat_natCast, List.take_of_length_le (Nat.le_refl _)]; simp [rowsX]
    have e4 : (rowsX (Lx.drop k)).length = Lx.length - k := by rw [rowsX_len, List.length_drop]
    have e5 : rowsX (Lx.take k ++ (newE x, DV.nil) :: Lx.drop k) = rowsX (Lx.take k) ++ rowX (newE x, DV.nil) :: rowsX (Lx.drop k) := by simp [rowsX]
    have e6 := rowsX_len (Lx.take k ++ (newE x, DV.nil) :: Lx.drop k)
    rw [hlen2] at e6
    rw [e1]
    refine ⟨⟨?_, ?_⟩, ?_⟩
    · show (2 * (rowsX (Lx.take k)).length + 1024) * 56 ≤ 281474976710656; rw [e2]; omega
    · show (rowsX (Lx.take k)).length ≤ 4611686018427387904; rw [e2]; omega
    generalize rowsX (Lx.take k) = T at e2 e5
    cases T with
    | nil =>
      rw [List.length_nil] at e2
      conv => whnf
      refine ⟨rowK x, ⟨by omega, row_i hx⟩, ?_⟩
      conv => whnf
      refine ⟨⟨show (2 * 1 + 1024) * 56 ≤ 281474976710656 by omega, show 1 ≤ 4611686018427387904 by omega⟩, ?_⟩
      conv => whnf
      intro c2 hc2
      conv => whnf
      refine ⟨⟨by omega, by omega, by omega⟩, ?_⟩
      conv => whnf
      rw [e3]
      refine ⟨by simp, ⟨?_, ?_⟩, ?_⟩
      · show (2 * (1 + (rowsX (Lx.drop k)).length) + 1024) * 56 ≤ 281474976710656; rw [e4]; omega
      · show 1 + (rowsX (Lx.drop k)).length ≤ 4611686018427387904; rw [e4]; omega
      conv => whnf
      intro c3 hc3
      conv => whnf
      have e8 : List.take ([[DV.int IntKind.i64 x.1, DV.int IntKind.i64 x.2.1, DV.int IntKind.i64 x.2.2, DV.nil, DV.int IntKind.i64 (-1)]] : List (List DV)).length [[DV.int IntKind.i64 x.1, DV.int IntKind.i64 x.2.1, DV.int IntKind.i64 x.2.2, DV.nil, DV.int IntKind.i64 (-1)]] ++ rowsX (Lx.drop k) = rowsX (Lx.take k ++ (newE x, DV.nil) :: Lx.drop k) := by rw [e5]; rfl
      have e9 : ([[DV.int IntKind.i64 x.1, DV.int IntKind.i64 x.2.1, DV.int IntKind.i64 x.2.2, DV.nil, DV.int IntKind.i64 (-1)]] : List (List DV)).length + (rowsX (Lx.drop k)).length = (rowsX (Lx.take k ++ (newE x, DV.nil) :: Lx.drop k)).length := by
        show 1 + _ = _
        omega
      rw [e8, e9]
      refine ⟨_, _, GV.freeze 3 rfl (by simp) (by repeat' first | exact trivial | apply And.intro | decide | (simp; done) | omega) (by repeat' first | exact trivial | apply And.intro | decide | (simp; done)), ?_⟩
      conv => whnf
      rw [List.drop_zero, List.take_length, succ_i haS (by omega)]
      exact ⟨_, by omega, a + 1, Lx.take k ++ (newE x, DV.nil) :: Lx.drop k, haS, rfl, hokn, by omega, hadd, rfl, rfl⟩
    | cons r0 rs =>
      rw [List.length_cons] at e2
      conv => whnf
      intro c1 hc1
      conv => whnf
      refine ⟨rowK x, ⟨by omega, row_i hx⟩, ?_⟩
      conv => whnf
      refine ⟨by simp, ⟨?_, ?_⟩, ?_⟩
      · show (2 * (rs.length + 1 + 1) + 1024) * 56 ≤ 281474976710656; omega
      · show rs.length + 1 + 1 ≤ 4611686018427387904; omega
      conv => whnf
      intro c2 hc2
      conv => whnf
      refine ⟨⟨by omega, by omega, by omega⟩, ?_⟩
      conv => whnf
      rw [e3]
      refine ⟨by simp, ⟨?_, ?_⟩, ?_⟩
      · show (2 * (rs.length + 1 + 1 + (rowsX (Lx.drop k)).length) + 1024) * 56 ≤ 281474976710656; rw [e4]; omega
      · show rs.length + 1 + 1 + (rowsX (Lx.drop k)).length ≤ 4611686018427387904; rw [e4]; omega
      conv => whnf
      intro c3 hc3
      conv => whnf
      have e8 : List.take ((r0 :: rs).length + ([[DV.int IntKind.i64 x.1, DV.int IntKind.i64 x.2.1, DV.int IntKind.i64 x.2.2, DV.nil, DV.int IntKind.i64 (-1)]] : List (List DV)).length) (List.take (r0 :: rs).length (r0 :: rs) ++ [[DV.int IntKind.i64 x.1, DV.int IntKind.i64 x.2.1, DV.int IntKind.i64 x.2.2, DV.nil, DV.int IntKind.i64 (-1)]]) ++ rowsX (Lx.drop k) = rowsX (Lx.take k ++ (newE x, DV.nil) :: Lx.drop k) := by
        rw [e5, List.take_length, List.take_of_length_le (by simp)]
        simp [rowX, newE]
      have e9 : (r0 :: rs).length + ([[DV.int IntKind.i64 x.1, DV.int IntKind.i64 x.2.1, DV.int IntKind.i64 x.2.2, DV.nil, DV.int IntKind.i64 (-1)]] : List (List DV)).length + (rowsX (Lx.drop k)).length = (rowsX (Lx.take k ++ (newE x, DV.nil) :: Lx.drop k)).length := by
        show rs.length + 1 + 1 + _ = _
        omega
      rw [e8, e9]
      refine ⟨_, _, GV.freeze 4 rfl (by simp) (by repeat' first | exact trivial | apply And.intro | decide | (simp; done) | omega) (by repeat' first | exact trivial | apply And.intro | decide | (simp; done)), ?_⟩
      conv => whnf
      rw [List.drop_zero, List.take_length, succ_i haS (by omega)]
      exact ⟨_, by omega, a + 1, Lx.take k ++ (newE x, DV.nil) :: Lx.drop k, haS, rfl, hokn, by omega, hadd, rfl, rfl⟩
  · refine ⟨Lx, hok, ?_, rfl, rfl⟩
    rw [← hadd]
    rcases Nat.lt_or_ge a S.length with h1 | h1
    · have h2 : 128 ≤ (fsX Lx).length := by
        rw [hSr, decide_eq_true (show (a : Int) < (S.length : Int) by omega)] at h
        have h : decide (((rowsX Lx).length : Int) < 128) = false := h
        have := of_decide_eq_false h
        rw [fsX, List.length_map]
        omega
      rw [addL_full h2]
    · rw [List.drop_of_length_le h1]
      rfl
/-- As data. -/
theorem add18 (cnt fdr hop : Int) (mem : List Int) (hm : mem.length ≤ 100000) (l : List En) (hl : l.length ≤ 1000) (hb : ∀ e ∈ l, e.bids.length ≤ 100000) (ks : List Kt) (hk : ks.length ≤ 1000) :
    Contract Tryz.prog G0 18 [awG cnt fdr hop mem l, .d (.list 3 (rowsK ks))] [] (fun r t => r = awG cnt fdr hop mem (addL l (sortK cK ks)) ∧ t = []) := by
  refine (add18X cnt fdr hop mem hm l hl hb ks hk).told fun r t hr => ?_
  obtain ⟨Lx, hok, hfs, rfl, rfl⟩ := hr
  rw [← hfs]
  refine ⟨awG cnt fdr hop mem (fsX Lx), GV.told1 (by intro h; cases h) fun M F w v h => ?_, rfl, rfl, rfl⟩
  cases h with
  | agg cs vs hlen h1 h =>
    refine .agg _ vs hlen h1 fun j x u hx hu => ?_
    match j, hx with
    | 0, hx => cases hx; exact h 0 _ u rfl hu
    | 1, hx => cases hx; exact h 1 _ u rfl hu
    | 2, hx => cases hx; exact h 2 _ u rfl hu
    | 3, hx => cases hx; exact h 3 _ u rfl hu
    | 4, hx =>
      cases hx
      have h4 := h 4 _ u rfl hu
      cases h4 with
      | d h4 => exact .d (wkX hok F w u h4)
    | j + 5, hx => simp at hx
end Go.Proofs.YtkenimmellonjaaGreat
/- Seat Z: what the ledger says: the walk. -/
namespace Go.Proofs.YtkenimmellonjaaGreat
open Go.Pv Go.RowKit Go.Shelf
theorem light_aw {cnt fdr hop : Int} {mem : List Int} {l : List En} (h : lightB cnt fdr hop mem l = true) : AwOK l := by
  unfold lightB at h
  cases hf : l.any fat with
  | true => rw [hf] at h; cases h
  | false =>
  rw [hf] at h
  have h : (bif bif decide ((mem.length : Int) ≤ 16) then decide ((l.length : Int) ≤ 30) else false then vRing cnt fdr hop mem l == 0 else false) = true := h
  cases h1 : (bif decide ((mem.length : Int) ≤ 16) then decide ((l.length : Int) ≤ 30) else false) with
  | false => rw [h1] at h; cases h
  | true =>
  rw [h1] at h
  have h : (vRing cnt fdr hop mem l == 0) = true := h
  have h : vRing cnt fdr hop mem l = 0 := by simpa using h
  obtain ⟨_, h⟩ := cond0 (by decide) h
  obtain ⟨_, h⟩ := cond0 (by decide) h
  obtain ⟨hc, h⟩ := cond0 (by decide) h
  obtain ⟨_, h⟩ := cond0 (by decide) h
  obtain ⟨hb, _, _⟩ := vEnts_ok l none h
  intro e he
  have h3 := (bor0 (hb e he).1).2
  by_cases h4 : e.aw = -1
  · exact .inl h4
  · right
    have h5 : (!(e.aw == -1)) = true := by simp [h4]
    rw [h5] at h3
    have h6 : e.aw ∈ mem := by simpa using h3
    have h7 : carB e.aw = true := by simpa using (List.any_eq_false.1 hc) _ h6
    unfold carB at h7
    by_cases h8 : 0 ≤ e.aw
    · exact h8
    · simp [h8] at h7
theorem sameK_refl (k : Int × Int × Int) : sameK k k = true := by simp [sameK]
theorem sameC2_refl (k : Int × Int) : sameC2 k k = true := by simp [sameC2]
theorem putB_len (l : List B) (b : B) : (putB l b).1.length ≤ l.length + 1 := by
  unfold putB
  split
  · exact Nat.le_succ _
  · exact Nat.le_of_eq (insB_len l b)
theorem bidL_bids {mem : List Int} {b : B} {c : Int × Int} {l : List En} {n : Nat} (h : ∀ e ∈ l, e.bids.length ≤ n) : ∀ e ∈ (bidL mem b c l).1, e.bids.length ≤ n + 1 := by
  have h0 : ∀ e ∈ l, e.bids.length ≤ n + 1 := fun e he => Nat.le_succ_of_le (h e he)
  unfold bidL
  split
  · split
    · rename_i x hx
      cases noBid mem b x with
      | true => exact h0
      | false =>
        intro e he
        rcases List.mem_or_eq_of_mem_set he with he | rfl
        · exact h0 e he
        · refine Nat.le_trans (putB_len _ _) ?_
          have := h x (List.mem_of_getElem? hx)
          omega
    · exact h0
  · exact h0
theorem filter_len_le {α : Type} (p : α → Bool) (l : List α) (n : Nat) (h : l.length ≤ n) : (l.filter p).length ≤ n := Nat.le_trans (List.length_filter_le ..) h
set_option maxHeartbeats 4000000 in
set_option maxRecDepth 100000 in
theorem ledgerSays (cnt fdr hop : Int) (mem : List Int) (l : List En) (cnt' fdr' hop' : Int) (mem' : List Int) (l' : List En) (hl : l.length ≤ maxLen) (hl' : l'.length ≤ maxLen) (lit : List Kt) (car : Int) (b : B) (c : Int × Int) (ms : List Int) :
    Contract Tryz.prog G0 3 [awG cnt fdr hop mem l, awG cnt' fdr' hop' mem' l', .d (.list 3 (rowsK lit)), .d (.int .i64 car), bidv b, calV c.1 c.2, .d (.list 1 (rowsI ms))] [] (fun r t => r = .d (.bool true) ∧ t = []) := by
  have hkn := rowsK_len lit
  have hin := rowsI_len ms
  refine run3 0 [] rfl rfl ?_
  conv => whnf
  refine .scal [] _ ⟨.refl _, rfl, first47⟩ ?_
  conv => whnf
  refine .scal [awG cnt fdr hop mem l] _ ⟨.refl _, rfl, light cnt fdr hop mem l hl⟩ ?_
  conv => whnf
  refine .scal [awG cnt' fdr' hop' mem' l'] _ (fun _ => ⟨.refl _, rfl, light cnt' fdr' hop' mem' l' hl'⟩) ?_
  conv => whnf
  refine bcase_intro (fun hg => ?_) (fun hg => ?_) <;> conv => whnf
  · exact ⟨rfl, rfl⟩
  have hg : (bif (bif (bif !lightB cnt fdr hop mem l then true else !lightB cnt' fdr' hop' mem' l') then true else decide (((rowsK lit).length : Int) > 30)) then true else decide (((rowsI ms).length : Int) > 16)) = false := hg
  obtain ⟨hg, h16⟩ := bor0 hg
  obtain ⟨hg, h30⟩ := bor0 hg
  obtain ⟨hg, _⟩ := bor0 hg
  have hli : lightB cnt fdr hop mem l = true := by simpa using hg
  have h16 := of_decide_eq_false h16
  have h30 := of_decide_eq_false h30
  have hlit : lit.length ≤ 30 := by omega
  have hms : ms.length ≤ 16 := by omega
  have ok := light_ok hli
  have haw := light_aw hli
  have hl := ok.ll
  have hm := ok.ml
  have hm1 : mem.length ≤ 100000 := by omega
  have hl1 : l.length ≤ 1000 := by omega
  have hm2 : mem.length ≤ 4611686018427387904 := by omega
  have hl2 : l.length ≤ 4611686018427387904 := by omega
  have hbb : ∀ e ∈ l, e.bids.length ≤ 100000 := fun e he => Nat.le_trans (ok.bl e he) (by decide)
  have hbc : ∀ e ∈ l, e.bids.length ≤ 10000 := fun e he => Nat.le_trans (ok.bl e he) (by decide)
  have hbm : ∀ e ∈ l, e.bids.length ≤ 4611686018427387904 := fun e he => Nat.le_trans (ok.bl e he) (by decide)
  have hbB : ∀ e ∈ (bidL mem b c l).1, e.bids.length ≤ 4611686018427387904 := fun e he => Nat.le_trans (bidL_bids (n := 16) ok.bl e he) (by decide)
  have hbl : (bidL mem b c l).1.length ≤ 4611686018427387904 := by rw [bidL_len]; exact hl2
  have hwB : ∀ e ∈ l.map (awE mem), e.bids.length ≤ 4611686018427387904 := fun e he => by
    obtain ⟨y, hy, rfl⟩ := List.mem_map.1 he
    rw [awE_bids]; exact hbm y hy
  have hwl : (l.map (awE mem)).length ≤ 4611686018427387904 := by rw [List.length_map]; exact hl2
  have hoB : ∀ e ∈ wonL mem l, e.bids.length ≤ 4611686018427387904 := fun e he => by
    obtain ⟨y, hy, rfl⟩ := List.mem_map.1 he
    rw [awE_bids]; exact hbm y (List.mem_filter.1 hy).1
  have hol : (wonL mem l).length ≤ 4611686018427387904 := by
    rw [wonL, List.length_map]; exact filter_len_le _ _ _ hl2
  have hsl : (stayL lit l).length ≤ 4611686018427387904 := filter_len_le _ _ _ hl2
  have hsB : ∀ e ∈ stayL lit l, e.bids.length ≤ 4611686018427387904 := fun e he => hbm e (List.mem_filter.1 he).1
  have hal : (addL l (sortK cK lit)).length ≤ 4611686018427387904 := Nat.le_trans (addL_le _ (by omega)) (by decide)
  have haB : ∀ e ∈ addL l (sortK cK lit), e.bids.length ≤ 4611686018427387904 := fun e he => by
    rcases addL_mem _ he with he | ⟨k, _, rfl⟩
    · exact hbm e he
    · exact Nat.zero_le _
  have hml : (mineL car l).length ≤ 4611686018427387904 := Nat.le_trans (mineL_len _ _) hl2
  have hwl2 : (wantL mem car l).length ≤ 4611686018427387904 := by
    unfold wantL
    split
    · exact Nat.le_trans (wishL_len _ _) hl2
    · exact Nat.zero_le _
  have hnl : (setI ms).length ≤ 4611686018427387904 := Nat.le_trans (setI_len ms) (by omega)
  refine .data [awG cnt fdr hop mem l] _ ⟨WkL.refl _, rfl, copyD cnt fdr hop mem hm1 l hl1 hbb⟩ ?_
  conv => whnf
  refine .data [awG cnt fdr hop mem l, bidv b, calV c.1 c.2] _ ⟨WkL.refl _, rfl, bid cnt fdr hop mem hm1 l hl1 hbc b c⟩ ?_
  conv => whnf
  refine .data [awG cnt fdr hop mem l, bidv b, calV c.1 c.2] _ ⟨WkL.refl _, rfl, bid8 cnt fdr hop mem hm1 l hl1 hbc haw b c⟩ ?_
  conv => whnf
  refine .data [awG cnt fdr hop mem l] _ ⟨WkL.refl _, rfl, award cnt fdr hop mem hm1 l hl1 hbb⟩ ?_
  conv => whnf
  refine .data [awG cnt fdr hop mem l] _ ⟨WkL.refl _, rfl, award10 cnt fdr hop mem hm1 l hl1 hbb haw⟩ ?_
  conv => whnf
  refine .data [awG cnt fdr hop mem l] _ ⟨WkL.refl _, rfl, pass cnt fdr hop mem hm1 l hl1 hbb⟩ ?_
  conv => whnf
  refine .data [awG cnt fdr hop mem l] _ ⟨WkL.refl _, rfl, pass12 cnt fdr hop mem hm1 l hl1 hbb⟩ ?_
  conv => whnf
  refine .scal [awG cnt fdr hop mem (bidL mem b c l).1, awG cnt fdr hop mem (bidL mem b c l).1] _ (fun _ => ⟨.refl _, rfl, sameRing cnt fdr hop mem (bidL mem b c l).1 cnt fdr hop mem (bidL mem b c l).1 hm2 hbl hbB⟩) ?_
  conv => whnf
  refine .scal [awG cnt fdr hop mem (l.map (awE mem)), awG cnt fdr hop mem (l.map (awE mem))] _ (fun _ => ⟨.refl _, rfl, sameRing cnt fdr hop mem (l.map (awE mem)) cnt fdr hop mem (l.map (awE mem)) hm2 hwl hwB⟩) ?_
  conv => whnf
  refine .scal [.d (.list 5 (rowsE (wonL mem l))), .d (.list 5 (rowsE (wonL mem l)))] _ (fun _ => ⟨.refl _, rfl, sameEntrys14 (wonL mem l) (wonL mem l) hol hoB⟩) ?_
  conv => whnf
  refine .scal [awG cnt fdr (passH hop) mem l, awG cnt fdr (passH hop) mem l] _ (fun _ => ⟨.refl _, rfl, sameRing cnt fdr (passH hop) mem l cnt fdr (passH hop) mem l hm2 hl2 hbm⟩) ?_
  conv => whnf
  refine bcase_intro (fun hg => ?_) (fun hg => ?_)
  · exfalso
    simp [sameR_refl, eqLs_refl fun x _ => sameE_refl x] at hg
  clear hg
  conv => whnf
  refine .data [awG cnt fdr hop mem l, .d (.list 3 (rowsK lit))] _ (fun _ => ⟨WkL.refl _, rfl, purge cnt fdr hop mem hm1 l hl1 hbb lit (by omega)⟩) ?_
  conv => whnf
  refine .data [awG cnt fdr hop mem l, .d (.list 3 (rowsK lit))] _ (fun _ => ⟨WkL.refl _, rfl, purge16 cnt fdr hop mem hm1 l hl1 hbb lit (by omega)⟩) ?_
  conv => whnf
  refine .scal [awG cnt fdr hop mem (stayL lit l), awG cnt fdr hop mem (stayL lit l)] _ (fun _ => ⟨.refl _, rfl, sameRing cnt fdr hop mem (stayL lit l) cnt fdr hop mem (stayL lit l) hm2 hsl hsB⟩) ?_
  conv => whnf
  refine .data [awG cnt fdr hop mem l, .d (.list 3 (rowsK lit))] _ (fun _ => ⟨WkL.refl _, rfl, add cnt fdr hop mem hm1 l hl1 hbb lit (by omega)⟩) ?_
  conv => whnf
  refine .data [awG cnt fdr hop mem l, .d (.list 3 (rowsK lit))] _ (fun _ => ⟨WkL.refl _, rfl, add18 cnt fdr hop mem hm1 l hl1 hbb lit (by omega)⟩) ?_
  conv => whnf
  refine .scal [awG cnt fdr hop mem (addL l (sortK cK lit)), awG cnt fdr hop mem (addL l (sortK cK lit))] _ (fun _ => ⟨.refl _, rfl, sameRing cnt fdr hop mem (addL l (sortK cK lit)) cnt fdr hop mem (addL l (sortK cK lit)) hm2 hal haB⟩) ?_
  conv => whnf
  refine .data [awG cnt fdr hop mem l, .d (.int .i64 car)] _ (fun _ => ⟨WkL.refl _, rfl, wants cnt fdr hop mem hm1 l hl1 hbb car⟩) ?_
  conv => whnf
  refine .data [awG cnt fdr hop mem l, .d (.int .i64 car)] _ (fun _ => ⟨WkL.refl _, rfl, wants21 cnt fdr hop mem hm1 l hl1 hbb haw car⟩) ?_
  conv => whnf
  refine .scal [.d (.list 2 (rowsC (wantL mem car l))), .d (.list 2 (rowsC (wantL mem car l)))] _ (fun _ => ⟨.refl _, rfl, sameCalls19 (wantL mem car l) (wantL mem car l) hwl2⟩) ?_
  conv => whnf
  refine .data [awG cnt fdr hop mem l, .d (.int .i64 car)] _ (fun _ => ⟨WkL.refl _, rfl, mine cnt fdr hop mem l hl1 car⟩) ?_
  conv => whnf
  refine .data [awG cnt fdr hop mem l, .d (.int .i64 car)] _ (fun _ => ⟨WkL.refl _, rfl, mine24 cnt fdr hop mem l hl1 car⟩) ?_
  conv => whnf
  refine .scal [.d (.list 3 (rowsK (mineL car l))), .d (.list 3 (rowsK (mineL car l)))] _ (fun _ => ⟨.refl _, rfl, sameLatchs22 (mineL car l) (mineL car l) hml⟩) ?_
  conv => whnf
  refine .data [epoV cnt fdr, .d (.list 1 (rowsI ms))] _ (fun _ => ⟨WkL.refl _, rfl, new cnt fdr ms (by omega)⟩) ?_
  conv => whnf
  refine .data [epoV cnt fdr, .d (.list 1 (rowsI ms))] _ (fun _ => ⟨WkL.refl _, rfl, new26 cnt fdr ms (by omega)⟩) ?_
  conv => whnf
  refine .scal [awG cnt fdr 0 (setI ms) [], awG cnt fdr 0 (setI ms) []] _ (fun _ => ⟨.refl _, rfl, sameRing cnt fdr 0 (setI ms) [] cnt fdr 0 (setI ms) [] hnl (Nat.zero_le _) (by simp)⟩) ?_
  conv => whnf
  refine .scal [awG cnt fdr hop mem l, awG cnt' fdr' hop' mem' l'] _ (fun _ => ⟨.refl _, rfl, same27 cnt fdr hop mem l cnt' fdr' hop' mem' l' hm2 hl2 hbm⟩) ?_
  conv => whnf
  refine .scal [awG cnt fdr hop mem l, awG cnt' fdr' hop' mem' l'] _ (fun _ => ⟨.refl _, rfl, sameRing cnt fdr hop mem l cnt' fdr' hop' mem' l' hm2 hl2 hbm⟩) ?_
  conv => whnf
  refine .scal [awG cnt fdr hop mem l, awG cnt fdr hop mem l] _ (fun _ => ⟨.refl _, rfl, sameRing cnt fdr hop mem l cnt fdr hop mem l hm2 hl2 hbm⟩) ?_
  conv => whnf
  refine ⟨?_, rfl⟩
  simp only [sameR_refl, eqLs_refl fun x _ => sameK_refl x, eqLs_refl fun x _ => sameC2_refl x]
  simp
end Go.Proofs.YtkenimmellonjaaGreat
/- Seat Z: bids and calls that come in. -/
namespace Go.Proofs.YtkenimmellonjaaGreat
open Go.Pv Go.RowKit
theorem arg_bid {n : Nat} {x : AV} (h : ArgD T (n + 3) 30 x) : ∃ b : B, x = bidv b := by
  obtain ⟨y, h, rfl⟩ := h
  obtain ⟨b, rfl⟩ := dat_bid h
  exact ⟨b, rfl⟩
theorem arg_call {n : Nat} {x : AV} (h : ArgD T (n + 3) 32 x) : ∃ c : Int × Int, x = calV c.1 c.2 := by
  obtain ⟨y, h, rfl⟩ := h
  obtain ⟨_, _, rfl, ⟨c, _, _, rfl⟩, _, _, rfl, ⟨p, _, _, rfl⟩, rfl⟩ := h
  exact ⟨(c, p), rfl⟩
end Go.Proofs.YtkenimmellonjaaGreat
