/- The seat's texts, part 3: what single functions of the program compute; no statement of its own. -/
import Derived.Test.YtkenimmellonjaaGB
import Derived.Test.YtkenimmellonjaaSq
/- Seat r2: what is struck off. -/
namespace Go.Proofs.Ytkenimmellonjaa
open Go.Pv Go.RowKit Go.Shelf
abbrev keepL (p : En → Bool) (l : List En) : List En := l.filter fun e => !p e
theorem idx_before {α : Type} {p : α → Bool} : ∀ (l : List α) (i : Int) (k : Nat), idxFrom p l i = i + k → ∀ e ∈ l.take k, p e = false
  | [], _, _, _, _, h => by simp at h
  | _ :: _, _, 0, _, _, h => by simp at h
  | x :: r, i, k + 1, h, e, he => by
    unfold idxFrom at h
    split at h
    · omega
    · rename_i hx
      rw [List.take_succ_cons] at he
      rcases List.mem_cons.1 he with rfl | he
      · simpa using hx
      · exact idx_before r (i + 1) k (by rw [h]; omega) e he
set_option maxRecDepth 100000 in
theorem index96O (l : List En) (hl : l.length ≤ 4611686018427387904) (p : En → Bool) (f : Nat) (cs : List DV) (hf : ∀ x, Contract Try.prog G0 f [entV x, .d (.ptr cs 0)] [] (fun r t => r = .d (.bool (p x)) ∧ t = [])) :
    Contract Try.prog G0 96 [.d (.list 5 ((List.drop 0 (rowsE l)).take l.length)), .fn f [.d (.ptr cs 0)]] [] (fun r t => r = .d (.int .i64 (idxFrom p l 0)) ∧ t = []) := by
  rw [List.drop_zero, List.take_of_length_le (by rw [rowsE_len]; exact Nat.le_refl _)]
  exact index96 l hl p f cs hf
set_option maxRecDepth 100000 in
theorem deleteFunc (l : List En) (hl : l.length ≤ 1000) (cap : Nat) (hcap : l.length ≤ cap) (p : En → Bool) (f : Nat) (cs : List DV) (hf : ∀ x, Contract Try.prog G0 f [entV x, .d (.ptr cs 0)] [] (fun r t => r = .d (.bool (p x)) ∧ t = [])) :
    Contract Try.prog G0 89 [.slc (.g 0) 5 0 l.length cap, .fn f [.d (.ptr cs 0)]] [(0, .row 5 (rowsE l))] (fun r t => ∃ tl, r = .slc (.g 0) 5 0 (keepL p l).length cap ∧ t = [(0, .row 5 (rowsE (keepL p l) ++ tl))]) := by
  have hrl := rowsE_len l
  have hix := index96O l (by omega) p f cs hf
  refine run89 1 [] rfl rfl ?_
  rcases idx_cases0 p l with ⟨h1, hno⟩ | ⟨k, x0, h1, hx0, hfd⟩
  · rw [h1] at hix
    conv => whnf
    refine .scal [.d (.list 5 ((List.drop 0 (rowsE l)).take l.length)), .fn f [.d (.ptr cs 0)]] (.d (.int .i64 (-1))) ⟨.fz 0 _ rfl (by simp) (by repeat' first | exact trivial | apply And.intro | decide | (simp; done) | omega) (.refl _), rfl, hix⟩ ?_
    conv => whnf
    have hall : keepL p l = l := by
      rw [keepL, List.filter_eq_self]
      intro e he
      have := (List.find?_eq_none.1 hno) e he
      simpa using this
    exact ⟨[], by rw [hall], by rw [hall, List.append_nil]⟩
  · rw [h1] at hix
    have hkl := (List.getElem?_eq_some_iff.1 hx0).1
    conv => whnf
    refine .scal [.d (.list 5 ((List.drop 0 (rowsE l)).take l.length)), .fn f [.d (.ptr cs 0)]] (.d (.int .i64 (k : Int))) ⟨.fz 0 _ rfl (by simp) (by repeat' first | exact trivial | apply And.intro | decide | (simp; done) | omega) (.refl _), rfl, hix⟩ ?_
    conv => whnf
    rw [succ_i hkl (by omega)]
    have hpre : keepL p (l.take k) = l.take k := by
      rw [keepL, List.filter_eq_self]
      intro e he
      have := idx_before l 0 k (by rw [h1]; omega) e he
      simpa using this
    have hpx : p x0 = true := List.find?_some hfd
    have hk1 : keepL p (l.take (k + 1)) = l.take k := by
      rw [List.take_add_one, hx0, keepL, List.filter_append]
      have := hpre
      rw [keepL] at this
      rw [this]
      simp [hpx]
    refine StopG.rounds wk89 [] [0, 1, 5, 6] (fun m env s => ∃ (j : Nat) (mid : List (List DV)), j ≤ l.length ∧ mid.length + (keepL p (l.take j)).length = j ∧ 0 < mid.length ∧ (∀ r ∈ mid, r.length = 5) ∧ m = l.length - j ∧ env = [(0, .slc (.g 0) 5 0 l.length cap), (1, .fn f [.d (.ptr cs 0)]), (5, .d (.int .i64 ((keepL p (l.take j)).length : Int))), (6, .d (.int .i64 (j : Int)))] ∧ s = [(0, .row 5 (rowsE (keepL p (l.take j)) ++ mid ++ rowsE (l.drop j)))]) rfl ?_ ?_
    · conv => whnf
      refine ⟨_, k + 1, [rowE x0], hkl, ?_, by simp, by simp [rowE], rfl, ?_, ?_⟩
      · rw [hk1]; simp; omega
      · rw [hk1, List.length_take, Nat.min_eq_left (by omega)]
      · rw [hk1]
        refine congrArg (fun q => [(0, AB.row 5 q)]) ?_
        obtain ⟨y, hy, hd⟩ := at_i hkl
        rw [hx0] at hy
        cases hy
        conv => lhs; rw [← List.take_append_drop k l, hd]
        simp [rowsE]
    rintro m env s ⟨j, mid, hj, hmid, hm0, hm5, rfl, rfl, rfl⟩
    conv => whnf
    refine bcase_intro (fun h => ?_) (fun h => ?_) <;> conv => whnf
    · have hjl := lt_of h
      obtain ⟨x, hx, hd⟩ := at_i hjl
      have hrow : (rowsE (keepL p (l.take j)) ++ mid ++ rowsE (l.drop j))[0 + (j : Int).toNat]? = some (rowE x) := by
        rw [List.getElem?_append_right (by simp [rowsE]; omega)]
        simp only [List.length_append, rowsE_len, Nat.zero_add, Int.toNat_natCast]
        rw [show j - ((keepL p (l.take j)).length + mid.length) = 0 by omega, hd]
        rfl
      refine ⟨⟨by omega, by omega⟩, ?_⟩
      conv => whnf
      refine ⟨rowE x, hrow, rfl, ?_⟩
      conv => whnf
      refine .scal [entV x, .d (.ptr cs 0)] _ ⟨.refl _, rfl, hf x⟩ ?_
      conv => whnf
      have htk : keepL p (l.take (j + 1)) = keepL p (l.take j) ++ (match p x with | true => [] | false => [x]) := by
        rw [List.take_add_one, hx, keepL, keepL, List.filter_append]
        cases hp : p x <;> simp [hp]
      refine bcase_intro (fun hg => ?_) (fun hg => ?_) <;> conv => whnf
      · have hg : p x = false := by simpa using hg
        rw [hg] at htk
        have hlk : (keepL p (l.take (j + 1))).length = (keepL p (l.take j)).length + 1 := by rw [htk]; simp
        obtain ⟨m0, mr, rfl⟩ : ∃ m0 mr, mid = m0 :: mr := by
          cases mid with
          | nil => simp at hm0
          | cons a b => exact ⟨a, b, rfl⟩
        refine ⟨⟨by omega, by simp at hmid; omega⟩, ?_⟩
        conv => whnf
        have h5 : m0.length = 5 := hm5 m0 (List.mem_cons_self ..)
        match m0, h5 with
        | [a0, a1, a2, a3, a4], _ =>
        have hi : (rowsE (keepL p (l.take j)) ++ [a0, a1, a2, a3, a4] :: mr ++ rowsE (l.drop j))[0 + ((keepL p (l.take j)).length : Int).toNat]? = some [a0, a1, a2, a3, a4] := by
          rw [List.append_assoc, List.getElem?_append_right (by simp [rowsE])]
          simp [rowsE]
        refine ⟨_, hi, ?_⟩
        conv => whnf
        rw [succ_i hjl (by omega), succ_i (i := (keepL p (l.take j)).length) (Nat.lt_succ_self _) (by simp at hmid; omega), ← hlk]
        refine ⟨_, by omega, j + 1, mr ++ [rowE x], hjl, ?_, by simp, ?_, rfl, rfl, ?_⟩
        · rw [hlk]; simp at hmid ⊢; omega
        · intro r hr
          rcases List.mem_append.1 hr with hr | hr
          · exact hm5 r (List.mem_cons_of_mem _ hr)
          · rw [List.mem_singleton.1 hr]; rfl
        · refine congrArg (fun q => [(0, AB.row 5 q)]) ?_
          rw [htk, hd, show (0 + ((keepL p (l.take j)).length : Int).toNat) = (rowsE (keepL p (l.take j))).length by simp [rowsE], List.append_assoc, List.set_append_right _ _ (Nat.le_refl _), Nat.sub_self]
          show rowsE (keepL p (l.take j)) ++ (rowE x :: (mr ++ rowsE (x :: l.drop (j + 1)))) = _
          simp [rowsE]
      · have hg : p x = true := by simpa using hg
        rw [hg, List.append_nil] at htk
        rw [succ_i hjl (by omega)]
        refine ⟨_, by omega, j + 1, mid ++ [rowE x], hjl, ?_, by simp, ?_, rfl, by rw [htk], ?_⟩
        · rw [htk, List.length_append]; simp; omega
        · intro r hr
          rcases List.mem_append.1 hr with hr | hr
          · exact hm5 r hr
          · rw [List.mem_singleton.1 hr]; rfl
        · rw [htk, hd]; simp [rowsE]
    · have hjl := ge_of h
      have hjl2 : j = l.length := by omega
      rw [hjl2, List.take_length] at hmid
      rw [hjl2, List.take_length, List.drop_length]
      refine ⟨⟨by omega, by omega, by omega⟩, ?_⟩
      conv => whnf
      refine ⟨by simp [rowsE], ?_⟩
      conv => whnf
      refine ⟨⟨by omega, by omega, by omega⟩, ?_⟩
      conv => whnf
      refine ⟨(List.replicate ((l.length : Int).toNat - ((keepL p l).length : Int).toNat) ti72.zero) ++ (rowsE (keepL p l) ++ mid ++ rowsE []).drop (0 + ((keepL p l).length : Int).toNat + (List.replicate ((l.length : Int).toNat - ((keepL p l).length : Int).toNat) ti72.zero).length), by simp, ?_⟩
      refine congrArg (fun q => [(0, AB.row 5 q)]) ?_
      unfold splice
      rw [List.append_assoc, show (rowsE (keepL p l) ++ mid ++ rowsE []).take (0 + ((keepL p l).length : Int).toNat) = rowsE (keepL p l) by rw [List.append_assoc, List.take_left' (by simp [rowsE])]]
end Go.Proofs.Ytkenimmellonjaa
/- Seat r2: the ring without what is lit no more. -/
namespace Go.Proofs.Ytkenimmellonjaa
open Go.Pv Go.RowKit Go.Shelf
def eqK (y x : Int × Int × Int) : Bool := bif y.1 == x.1 then (bif y.2.1 == x.2.1 then y.2.2 == x.2.2 else false) else false
set_option maxRecDepth 100000 in
theorem indexK (l : List (Int × Int × Int)) (hl : l.length ≤ 4611686018427387904) (k : Int × Int × Int) : Contract Try.prog G0 105 [.d (.list 3 (rowsK l)), latV k.1 k.2.1 k.2.2] [] (fun r t => r = .d (.int .i64 (idxFrom (eqK k) l 0)) ∧ t = []) := by
  have hlen := rowsK_len l
  refine run105 0 [] rfl rfl ?_
  conv => whnf
  refine StopG.rounds wk105 [] [0, 3, 7, 8] (fun m env s => ∃ i : Nat, i ≤ l.length ∧ m = l.length - i ∧ idxFrom (eqK k) (l.drop i) i = idxFrom (eqK k) l 0 ∧
    env = [(0, .d (.list 3 (rowsK l))), (3, .ref (.g 0) 0), (7, .d (.int .i64 ((rowsK l).length : Int))), (8, .d (.int .i64 (i : Int)))] ∧ s = [(0, .cells [.d (.int .i64 k.1), .d (.int .i64 k.2.1), .d (.int .i64 k.2.2)])]) rfl ?_ ?_
  · conv => whnf
    exact ⟨_, 0, Nat.zero_le _, rfl, rfl, rfl, rfl⟩
  rintro m env s ⟨i, hi, rfl, hidx, rfl, rfl⟩
  conv => whnf
  refine bcase_intro (fun h => ?_) (fun h => ?_) <;> conv => whnf
  · have h := lt_of h
    rw [hlen] at h
    obtain ⟨x, hx, hdrop⟩ := at_i h
    refine ⟨rowK x, ⟨by omega, row_i hx⟩, ?_⟩
    conv => whnf
    refine ⟨⟨by kernel_rfl, by kernel_rfl⟩, ?_⟩
    conv => whnf
    rw [hdrop, idxFrom] at hidx
    refine bcase_intro (fun h2 => ?_) (fun h2 => ?_) <;> conv => whnf
    · have h2 : eqK k x = true := h2
      rw [if_pos h2] at hidx
      exact ⟨rd_int hidx, rfl⟩
    · have h2 : eqK k x = false := h2
      rw [succ_i h (by omega)]
      refine ⟨_, by omega, i + 1, h, rfl, ?_, rfl, rfl⟩
      rw [if_neg (by rw [h2]; decide)] at hidx
      exact hidx
  · have h := ge_of h
    rw [hlen] at h
    rw [show l.drop i = [] from List.drop_of_length_le h, idxFrom] at hidx
    exact ⟨rd_int hidx, rfl⟩
set_option maxRecDepth 100000 in
theorem containsK (l : List (Int × Int × Int)) (hl : l.length ≤ 4611686018427387904) (k : Int × Int × Int) : Contract Try.prog G0 78 [.d (.list 3 (rowsK l)), latV k.1 k.2.1 k.2.2] [] (fun r t => r = .d (.bool (l.any (eqK k))) ∧ t = []) := by
  refine run78 0 [] rfl rfl ?_
  conv => whnf
  refine .scal [.d (.list 3 (rowsK l)), latV k.1 k.2.1 k.2.2] _ ⟨.refl _, rfl, indexK l hl k⟩ ?_
  conv => whnf
  refine ⟨rd_bool ?_, rfl⟩
  rcases idx_cases0 (eqK k) l with ⟨h1, h2⟩ | ⟨j, x, h1, hx, h2⟩
  · rw [h1, List.find?_eq_none] at *
    exact (List.any_eq_false.2 h2).symm ▸ rfl
  · rw [h1]
    have := List.any_eq_true.2 ⟨x, List.mem_of_find?_eq_some h2, List.find?_some h2⟩
    rw [this]
    simp
def litE (ks : List (Int × Int × Int)) (e : En) : Bool := ks.any (eqK (keyE e))
set_option maxRecDepth 100000 in
theorem purge1 (ks : List (Int × Int × Int)) (hk : ks.length ≤ 4611686018427387904) (e : En) : Contract Try.prog G0 90 [entV e, .d (.ptr [.list 3 (rowsK ks)] 0)] [] (fun r s => r = .d (.bool (!litE ks e)) ∧ s = []) := by
  refine run90 0 [] rfl rfl ?_
  conv => whnf
  refine .scal [.d (.list 3 (rowsK ks)), latV e.fl e.dr e.gn] _ ⟨.refl _, rfl, containsK ks hk (keyE e)⟩ ?_
  conv => whnf
  exact ⟨rfl, rfl⟩
set_option maxRecDepth 100000 in
theorem deleteFunc_nil (f : Nat) (cs : List DV) (p : En → Bool) (hf : ∀ x, Contract Try.prog G0 f [entV x, .d (.ptr cs 0)] [] (fun r t => r = .d (.bool (p x)) ∧ t = [])) :
    Contract Try.prog G0 89 [.d (.list 5 []), .fn f [.d (.ptr cs 0)]] [] (fun r t => r = .d (.list 5 []) ∧ t = []) := by
  refine run89 0 [] rfl rfl ?_
  conv => whnf
  refine .scal [.d (.list 5 []), .fn f [.d (.ptr cs 0)]] (.d (.int .i64 (-1))) ⟨.refl _, rfl, index96 [] (by simp) p f cs hf⟩ ?_
  conv => whnf
  exact ⟨rfl, rfl⟩
/-- What stays lit. -/
def stayL (ks : List (Int × Int × Int)) (l : List En) : List En := l.filter (litE ks)
set_option maxRecDepth 100000 in
theorem purge_nil (cnt fdr hop : Int) (mem : List Int) (hm : mem.length ≤ 100000) (ks : List (Int × Int × Int)) (hk : ks.length ≤ 100000) : Contract Try.prog G0 62 [awG cnt fdr hop mem [], .d (.list 3 (rowsK ks))] [] (fun r t => r = awG cnt fdr hop mem [] ∧ t = []) := by
  refine run62 0 [2] rfl rfl ?_
  conv => whnf
  refine .obj rfl ?_
  conv => whnf
  refine ⟨_, _, ⟨WkL.refl _, own_nil cnt fdr hop mem hm⟩, fun res s1 h => ?_⟩
  obtain ⟨rfl, rfl⟩ := h
  conv => whnf
  refine .ghost (GV.freeze 1 rfl (by simp) (by repeat' first | exact trivial | apply And.intro | decide | (simp; done) | omega) (by repeat' first | exact trivial | apply And.intro)) (.go wk62 [] ?_)
  conv => whnf
  refine .obj rfl ?_
  conv => whnf
  refine ⟨_, _, ⟨WkL.refl _, deleteFunc_nil 90 [.list 3 (rowsK ks)] (fun e => !litE ks e) fun e => purge1 ks (by omega) e⟩, fun res s1 h => ?_⟩
  obtain ⟨rfl, rfl⟩ := h
  conv => whnf
  exact ⟨rfl, rfl⟩
set_option maxRecDepth 100000 in
theorem purge_cons (cnt fdr hop : Int) (mem : List Int) (hm : mem.length ≤ 100000) (e0 : En) (l0 : List En) (hl : l0.length + 1 ≤ 1000) (hb : ∀ e ∈ e0 :: l0, e.bids.length ≤ 100000) (ks : List (Int × Int × Int)) (hk : ks.length ≤ 100000) :
    Contract Try.prog G0 62 [awG cnt fdr hop mem (e0 :: l0), .d (.list 3 (rowsK ks))] [] (fun r t => ∃ cap tl, (stayL ks (e0 :: l0)).length ≤ cap ∧ r = rgV cnt fdr hop mem (.slc (.g 0) 5 0 (stayL ks (e0 :: l0)).length cap) ∧ t = [(0, .row 5 (rowsE (stayL ks (e0 :: l0)) ++ tl))]) := by
  refine run62 0 [2] rfl rfl ?_
  conv => whnf
  refine .obj rfl ?_
  conv => whnf
  refine ⟨_, _, ⟨WkL.refl _, own_cons cnt fdr hop mem hm e0 l0 (by omega) hb⟩, fun res s1 h => ?_⟩
  obtain ⟨cap, hc, rfl, rfl⟩ := h
  generalize hle : e0 :: l0 = l at hb
  have hll : l.length = l0.length + 1 := by rw [← hle]; rfl
  rw [← hll] at hc ⊢
  conv => whnf
  have hrl := rowsE_len l
  have hkeep : keepL (fun e => !litE ks e) l = stayL ks l := by
    unfold keepL stayL
    congr 1
    funext e
    simp
  have hdf := deleteFunc l (by omega) cap hc (fun e => !litE ks e) 90 [.list 3 (rowsK ks)] fun e => purge1 ks (by omega) e
  rw [hkeep] at hdf
  refine .ghost (GV.freeze 1 rfl (by simp) (by repeat' first | exact trivial | apply And.intro | decide | (simp; done) | omega) (by repeat' first | exact trivial | apply And.intro)) (.go wk62 [] ?_)
  conv => whnf
  refine .obj rfl ?_
  conv => whnf
  refine ⟨_, _, ⟨WkL.refl _, hdf⟩, fun res s1 h => ?_⟩
  obtain ⟨tl, rfl, rfl⟩ := h
  conv => whnf
  have hst : (stayL ks l).length ≤ l.length := List.length_filter_le _ _
  exact ⟨cap, tl, by omega, rfl, rfl⟩
/-- As data. -/
theorem purge (cnt fdr hop : Int) (mem : List Int) (hm : mem.length ≤ 100000) (l : List En) (hl : l.length ≤ 1000) (hb : ∀ e ∈ l, e.bids.length ≤ 100000) (ks : List (Int × Int × Int)) (hk : ks.length ≤ 100000) :
    Contract Try.prog G0 62 [awG cnt fdr hop mem l, .d (.list 3 (rowsK ks))] [] (fun r t => r = awG cnt fdr hop mem (stayL ks l) ∧ t = []) := by
  cases l with
  | nil => exact purge_nil cnt fdr hop mem hm ks hk
  | cons e0 l0 =>
    refine (purge_cons cnt fdr hop mem hm e0 l0 (by simpa using hl) hb ks hk).told fun r t hr => ?_
    obtain ⟨cap, tl, hc, rfl, rfl⟩ := hr
    refine ⟨awG cnt fdr hop mem (stayL ks (e0 :: l0)), ?_, rfl, rfl, rfl⟩
    have hrl := rowsE_len (stayL ks (e0 :: l0))
    refine GV.trans (GV.freeze 0 rfl (by simp) (by repeat' first | exact trivial | apply And.intro | decide | (simp; done) | (simp; omega) | omega) (by repeat' first | exact trivial | apply And.intro)) (GV.tidied [0] ?_)
    conv => whnf
    rw [List.drop_zero, List.take_left' (by omega)]
    exact ⟨rfl, rfl⟩
end Go.Proofs.Ytkenimmellonjaa
/- Seat r2: latches put in order, piece by piece. -/
namespace Go.Proofs.Ytkenimmellonjaa
open Go.Pv Go.RowKit Go.Shelf
abbrev Kt := Int × Int × Int
/-- Put among what is in order, from behind. -/
def insV (c : Kt → Kt → Int) (x : Kt) : List Kt → List Kt
  | [] => [x]
  | y :: r => if c x y < 0 then y :: insV c x r else x :: y :: r
def sortV (c : Kt → Kt → Int) (l : List Kt) : List Kt := l.foldl (fun acc x => insV c x acc) []
/-- In order. -/
def sortK (c : Kt → Kt → Int) (l : List Kt) : List Kt := (sortV c l).reverse
theorem insV_len (c : Kt → Kt → Int) (x : Kt) : ∀ (l : List Kt), (insV c x l).length = l.length + 1
  | [] => rfl
  | y :: r => by
    unfold insV
    split
    · simp [insV_len c x r]
    · rfl
theorem sortV_snoc (c : Kt → Kt → Int) (l : List Kt) (x : Kt) : sortV c (l ++ [x]) = insV c x (sortV c l) := by simp [sortV]
theorem sortV_len (c : Kt → Kt → Int) (l : List Kt) : (sortV c l).length = l.length := by
  have key : ∀ (l : List Kt) (acc : List Kt), (l.foldl (fun acc x => insV c x acc) acc).length = acc.length + l.length := by
    intro l
    induction l with
    | nil => intro acc; rfl
    | cons x r ih => intro acc; rw [List.foldl_cons, ih, insV_len]; simp; omega
  have := key l []
  rw [List.length_nil, Nat.zero_add] at this
  exact this
theorem mid_row {A B : List Kt} {x : Kt} {i : Nat} (h : i = A.length) : (rowsK (A ++ x :: B))[0 + (i : Int).toNat]? = some (rowK x) := by
  subst h
  simp [rowsK]
theorem mid_put {A B : List Kt} {x y : Kt} {i : Nat} (h : i = A.length) : (rowsK (A ++ x :: B)).set (0 + (i : Int).toNat) (rowK y) = rowsK (A ++ y :: B) := by
  subst h
  simp [rowsK]
theorem insV_step (c : Kt → Kt → Int) (x y : Kt) (r : List Kt) : insV c x (y :: r) = if c x y < 0 then y :: insV c x r else x :: y :: r := rfl
set_option maxHeartbeats 4000000 in
set_option maxRecDepth 100000 in
theorem insSort (f : Nat) (c : Kt → Kt → Int) (hf : ∀ x y : Kt, Contract Try.prog G0 f [latV x.1 x.2.1 x.2.2, latV y.1 y.2.1 y.2.2] [] (fun r t => r = .d (.int .i64 (c x y)) ∧ t = []))
    (P l Q : List Kt) (hl : P.length + l.length + Q.length ≤ 100000) (cap : Nat) :
    Contract Try.prog G0 142 [.slc (.g 0) 3 0 (P.length + l.length + Q.length) cap, .d (.int .i64 (P.length : Int)), .d (.int .i64 ((P.length + l.length : Nat) : Int)), .fn f []] [(0, .row 3 (rowsK (P ++ l ++ Q)))]
      (fun r t => r = .tup [] ∧ t = [(0, .row 3 (rowsK (P ++ sortK c l ++ Q)))]) := by
  refine run142 1 [] rfl rfl ?_
  conv => whnf
  rw [succ_i (i := P.length) (Nat.lt_succ_self _) (by omega)]
  have hN : (rowsK (P ++ l ++ Q)).length = P.length + l.length + Q.length := by simp [rowsK]; omega
  generalize hn : P.length + l.length + Q.length = N at hl hN
  refine StopG.rounds wk142 [] [0, 1, 2, 3, 8] (fun m env s => ∃ k : Nat, 1 ≤ k ∧ (k ≤ l.length ∨ k = 1) ∧ m = l.length - k ∧ env = [(0, .slc (.g 0) 3 0 N cap), (1, .d (.int .i64 (P.length : Int))), (2, .d (.int .i64 ((P.length + l.length : Nat) : Int))), (3, .fn f []), (8, .d (.int .i64 ((P.length + k : Nat) : Int)))] ∧ s = [(0, .row 3 (rowsK (P ++ (sortV c (l.take k)).reverse ++ l.drop k ++ Q)))]) rfl ?_ ?_
  · conv => whnf
    refine ⟨_, 1, Nat.le_refl _, .inr rfl, rfl, rfl, ?_⟩
    refine congrArg (fun q => [(0, AB.row 3 (rowsK q))]) ?_
    cases l with
    | nil => simp [sortV]
    | cons x r => simp [sortV, insV]
  rintro m env s ⟨k, hk1, hk, rfl, rfl, rfl⟩
  conv => whnf
  refine bcase_intro (fun h => ?_) (fun h => ?_) <;> conv => whnf
  · have hkl : k < l.length := by have := lt_of h; omega
    obtain ⟨x, hx, hd⟩ := at_i hkl
    refine StopG.rounds wk142 [] [0, 1, 2, 3, 8, 9] (fun m env s => ∃ S1 S2 : List Kt, S2.reverse ++ insV c x S1.reverse = insV c x (sortV c (l.take k)) ∧ S1.length + S2.length = k ∧ m = S1.length ∧ env = [(0, .slc (.g 0) 3 0 N cap), (1, .d (.int .i64 (P.length : Int))), (2, .d (.int .i64 ((P.length + l.length : Nat) : Int))), (3, .fn f []), (8, .d (.int .i64 ((P.length + k : Nat) : Int))), (9, .d (.int .i64 ((P.length + S1.length : Nat) : Int)))] ∧ s = [(0, .row 3 (rowsK ((P ++ S1) ++ x :: (S2 ++ l.drop (k + 1) ++ Q))))]) rfl ?_ ?_
    · conv => whnf
      have hsl : (sortV c (l.take k)).reverse.length = k := by rw [List.length_reverse, sortV_len]; simp; omega
      refine ⟨_, (sortV c (l.take k)).reverse, [], by simp, by rw [hsl]; rfl, rfl, by rw [hsl], ?_⟩
      refine congrArg (fun q => [(0, AB.row 3 (rowsK q))]) ?_
      rw [hd]; simp
    rintro m env s ⟨S1, S2, hS, hlen, rfl, rfl, rfl⟩
    rcases List.eq_nil_or_concat S1 with rfl | ⟨S0, y, rfl⟩
    · conv => whnf
      refine ⟨(fun hg => by simp [HG, lit, rfind] at hg), ?_⟩
      conv => whnf
      refine ⟨rowK (0, 0, 0), (fun hg => by simp [HG, lit, rfind] at hg), rfl, ?_⟩
      conv => whnf
      refine ⟨(fun hg => by simp [HG, lit, rfind] at hg), ?_⟩
      conv => whnf
      refine ⟨rowK (0, 0, 0), (fun hg => by simp [HG, lit, rfind] at hg), rfl, ?_⟩
      conv => whnf
      refine .scal [latV 0 0 0, latV 0 0 0] _ (fun _ => ⟨.refl _, rfl, hf (0, 0, 0) (0, 0, 0)⟩) ?_
      conv => whnf
      refine bcase_intro (fun hg => ?_) (fun hg => ?_) <;> conv => whnf
      · exfalso
        rw [show decide (((P.length + ([] : List Kt).length : Nat) : Int) > (P.length : Int)) = false from decide_eq_false (by simp)] at hg
        cases hg
      rw [succ_i (i := P.length + k) (Nat.lt_succ_self _) (by omega)]
      refine ⟨_, by omega, k + 1, by omega, .inl (by omega), rfl, rfl, ?_⟩
      refine congrArg (fun q => [(0, AB.row 3 (rowsK q))]) ?_
      rw [List.take_add_one, hx, Option.toList, sortV_snoc, ← hS]
      simp [insV]
    · rw [List.concat_eq_append] at hS hlen ⊢
      have hl1 : (S0 ++ [y]).length = S0.length + 1 := by simp
      rw [hl1] at hlen ⊢
      conv => whnf
      refine ⟨fun _ => ⟨by omega, by omega⟩, ?_⟩
      conv => whnf
      refine ⟨rowK x, (fun _ => mid_row (by simp)), rfl, ?_⟩
      conv => whnf
      rw [show IntKind.wrap .i64 (((P.length + (S0.length + 1) : Nat) : Int) - 1) = ((P.length + S0.length : Nat) : Int) from back_i (i := P.length + S0.length) (by omega)]
      refine ⟨fun _ => ⟨by omega, by omega⟩, ?_⟩
      conv => whnf
      refine ⟨rowK y, (fun _ => by rw [show P ++ (S0 ++ [y]) ++ x :: (S2 ++ l.drop (k + 1) ++ Q) = (P ++ S0) ++ y :: (x :: (S2 ++ l.drop (k + 1) ++ Q)) by simp]; exact mid_row (by simp)), rfl, ?_⟩
      conv => whnf
      refine .scal [latV x.1 x.2.1 x.2.2, latV y.1 y.2.1 y.2.2] _ (fun _ => ⟨.refl _, rfl, hf x y⟩) ?_
      conv => whnf
      rw [show decide (((P.length + (S0.length + 1) : Nat) : Int) > (P.length : Int)) = true from decide_eq_true (by omega)]
      refine bcase_intro (fun hg => ?_) (fun hg => ?_) <;> conv => whnf
      · have hlt : c x y < 0 := of_decide_eq_true hg
        have hwr : IntKind.wrap .i64 (((P.length + (S0.length + 1) : Nat) : Int) - 1) = ((P.length + S0.length : Nat) : Int) := back_i (i := P.length + S0.length) (by omega)
        have e0 : P ++ (S0 ++ [y]) ++ x :: (S2 ++ l.drop (k + 1) ++ Q) = (P ++ S0) ++ y :: (x :: (S2 ++ l.drop (k + 1) ++ Q)) := by simp
        have ry : (rowsK (P ++ (S0 ++ [y]) ++ x :: (S2 ++ l.drop (k + 1) ++ Q)))[0 + ((P.length + S0.length : Nat) : Int).toNat]? = some (rowK y) := by rw [e0]; exact mid_row (by simp)
        have rx : (rowsK (P ++ (S0 ++ [y]) ++ x :: (S2 ++ l.drop (k + 1) ++ Q)))[0 + ((P.length + (S0.length + 1) : Nat) : Int).toNat]? = some (rowK x) := mid_row (by simp)
        have s1 : (rowsK (P ++ (S0 ++ [y]) ++ x :: (S2 ++ l.drop (k + 1) ++ Q))).set (0 + ((P.length + (S0.length + 1) : Nat) : Int).toNat) (rowK y) = rowsK ((P ++ S0) ++ y :: (y :: (S2 ++ l.drop (k + 1) ++ Q))) := by rw [mid_put (by simp)]; simp
        have r1 : ((rowsK (P ++ (S0 ++ [y]) ++ x :: (S2 ++ l.drop (k + 1) ++ Q))).set (0 + ((P.length + (S0.length + 1) : Nat) : Int).toNat) (rowK y))[0 + ((P.length + S0.length : Nat) : Int).toNat]? = some (rowK y) := by rw [s1]; exact mid_row (by simp)
        have s2 : ((rowsK (P ++ (S0 ++ [y]) ++ x :: (S2 ++ l.drop (k + 1) ++ Q))).set (0 + ((P.length + (S0.length + 1) : Nat) : Int).toNat) (rowK y)).set (0 + ((P.length + S0.length : Nat) : Int).toNat) (rowK x) = rowsK ((P ++ S0) ++ x :: (y :: (S2 ++ l.drop (k + 1) ++ Q))) := by rw [s1]; exact mid_put (by simp)
        have ba : 0 ≤ ((P.length + (S0.length + 1) : Nat) : Int) ∧ ((P.length + (S0.length + 1) : Nat) : Int) < (N : Int) := ⟨by omega, by omega⟩
        have bb : 0 ≤ ((P.length + S0.length : Nat) : Int) ∧ ((P.length + S0.length : Nat) : Int) < (N : Int) := ⟨by omega, by omega⟩
        have hwr2 := hwr
        rw [← hwr] at ry r1 s2 bb
        refine ⟨bb, ?_⟩
        conv => whnf
        refine ⟨rowK y, ry, rfl, ?_⟩
        conv => whnf
        refine ⟨ba, ?_⟩
        conv => whnf
        refine ⟨rowK x, rx, rfl, ?_⟩
        conv => whnf
        refine ⟨ba, ?_⟩
        conv => whnf
        refine ⟨rowK x, rx, ?_⟩
        conv => whnf
        refine ⟨bb, ?_⟩
        conv => whnf
        refine ⟨rowK y, r1, ?_⟩
        conv => whnf
        refine ⟨_, Nat.lt_succ_self _, S0, y :: S2, ?_, by simp; omega, rfl, ?_, ?_⟩
        · rw [← hS, show (S0 ++ [y]).reverse = y :: S0.reverse by simp, insV_step, if_pos hlt]; simp
        · rw [hwr2]
        · refine congrArg (fun q => [(0, AB.row 3 q)]) (s2.trans ?_)
          simp
      · have hge : ¬ c x y < 0 := of_decide_eq_false hg
        rw [succ_i (i := P.length + k) (Nat.lt_succ_self _) (by omega)]
        refine ⟨_, by omega, k + 1, by omega, .inl (by omega), rfl, rfl, ?_⟩
        refine congrArg (fun q => [(0, AB.row 3 (rowsK q))]) ?_
        rw [List.take_add_one, hx, Option.toList, sortV_snoc, ← hS, show (S0 ++ [y]).reverse = y :: S0.reverse by simp, insV_step, if_neg hge]
        simp
  · have hkl : l.length ≤ k := by have := ge_of h; omega
    rw [List.take_of_length_le hkl, List.drop_of_length_le hkl]
    rw [List.append_nil]; exact ⟨rfl, rfl⟩
end Go.Proofs.Ytkenimmellonjaa
/- Seat r2: latches changed over, range by range. -/
namespace Go.Proofs.Ytkenimmellonjaa
open Go.Pv Go.RowKit Go.Shelf
theorem sum_i {a b : Nat} (h : a + b ≤ 4611686018427387904) : IntKind.wrap .i64 ((a : Int) + (b : Int)) = ((a + b : Nat) : Int) := by
  rw [show (a : Int) + (b : Int) = ((a + b : Nat) : Int) by omega]
  exact wrap_id (by omega) (by omega)
set_option maxHeartbeats 4000000 in
set_option maxRecDepth 100000 in
theorem swapRange (f : Nat) (P A M B Q : List Kt) (hab : A.length = B.length) (N : Nat) (hN : P.length + A.length + M.length + B.length + Q.length = N) (hl : N ≤ 100000) (cap : Nat) :
    Contract Try.prog G0 165 [.slc (.g 0) 3 0 N cap, .d (.int .i64 (P.length : Int)), .d (.int .i64 ((P.length + A.length + M.length : Nat) : Int)), .d (.int .i64 (A.length : Int)), .fn f []] [(0, .row 3 (rowsK (P ++ A ++ M ++ B ++ Q)))]
      (fun r t => r = .tup [] ∧ t = [(0, .row 3 (rowsK (P ++ B ++ M ++ A ++ Q)))]) := by
  refine run165 1 [] rfl rfl ?_
  conv => whnf
  refine StopG.rounds wk165 [] [0, 1, 2, 3, 10] (fun m env s => ∃ A1 A2 B1 B2 : List Kt, A = A1 ++ A2 ∧ B = B1 ++ B2 ∧ A1.length = B1.length ∧ m = A2.length ∧ env = [(0, .slc (.g 0) 3 0 N cap), (1, .d (.int .i64 (P.length : Int))), (2, .d (.int .i64 ((P.length + A.length + M.length : Nat) : Int))), (3, .d (.int .i64 (A.length : Int))), (10, .d (.int .i64 (A1.length : Int)))] ∧ s = [(0, .row 3 (rowsK (P ++ B1 ++ A2 ++ M ++ A1 ++ B2 ++ Q)))]) rfl ?_ ?_
  · conv => whnf
    exact ⟨_, [], A, [], B, rfl, rfl, rfl, rfl, rfl, by simp⟩
  rintro m env s ⟨A1, A2, B1, B2, hA, hB, hlen, rfl, rfl, rfl⟩
  conv => whnf
  have hAl : A.length = A1.length + A2.length := by rw [hA]; simp
  have hBl : B.length = B1.length + B2.length := by rw [hB]; simp
  refine bcase_intro (fun h => ?_) (fun h => ?_) <;> conv => whnf
  · have hi := lt_of h
    match A2, B2, hA, hB, hAl, hBl with
    | [], _, _, _, hAl, _ => exact absurd hi (by simp at hAl; omega)
    | _ :: _, [], _, _, hAl, hBl => exact absurd hi (by simp at hAl hBl; omega)
    | x :: A2, y :: B2, hA, hB, hAl, hBl =>
    simp only [List.length_cons] at hAl hBl
    have hwa : IntKind.wrap .i64 ((P.length : Int) + (A1.length : Int)) = ((P.length + A1.length : Nat) : Int) := sum_i (by omega)
    have hwb : IntKind.wrap .i64 (((P.length + A.length + M.length : Nat) : Int) + (A1.length : Int)) = ((P.length + A.length + M.length + A1.length : Nat) : Int) := sum_i (by omega)
    have ea : P ++ B1 ++ x :: A2 ++ M ++ A1 ++ y :: B2 ++ Q = (P ++ B1) ++ x :: (A2 ++ M ++ A1 ++ y :: B2 ++ Q) := by simp
    have eb : P ++ B1 ++ x :: A2 ++ M ++ A1 ++ y :: B2 ++ Q = (P ++ B1 ++ x :: A2 ++ M ++ A1) ++ y :: (B2 ++ Q) := by simp
    have ra : (rowsK (P ++ B1 ++ x :: A2 ++ M ++ A1 ++ y :: B2 ++ Q))[0 + ((P.length + A1.length : Nat) : Int).toNat]? = some (rowK x) := by rw [ea]; exact mid_row (by simp; omega)
    have rb : (rowsK (P ++ B1 ++ x :: A2 ++ M ++ A1 ++ y :: B2 ++ Q))[0 + ((P.length + A.length + M.length + A1.length : Nat) : Int).toNat]? = some (rowK y) := by rw [eb]; exact mid_row (by simp; omega)
    have s1 : (rowsK (P ++ B1 ++ x :: A2 ++ M ++ A1 ++ y :: B2 ++ Q)).set (0 + ((P.length + A1.length : Nat) : Int).toNat) (rowK y) = rowsK ((P ++ B1 ++ y :: A2 ++ M ++ A1) ++ y :: (B2 ++ Q)) := by rw [ea, mid_put (by simp; omega)]; simp
    have r1 : ((rowsK (P ++ B1 ++ x :: A2 ++ M ++ A1 ++ y :: B2 ++ Q)).set (0 + ((P.length + A1.length : Nat) : Int).toNat) (rowK y))[0 + ((P.length + A.length + M.length + A1.length : Nat) : Int).toNat]? = some (rowK y) := by rw [s1]; exact mid_row (by simp; omega)
    have s2 : ((rowsK (P ++ B1 ++ x :: A2 ++ M ++ A1 ++ y :: B2 ++ Q)).set (0 + ((P.length + A1.length : Nat) : Int).toNat) (rowK y)).set (0 + ((P.length + A.length + M.length + A1.length : Nat) : Int).toNat) (rowK x) = rowsK ((P ++ B1 ++ y :: A2 ++ M ++ A1) ++ x :: (B2 ++ Q)) := by rw [s1]; exact mid_put (by simp; omega)
    have ba : 0 ≤ ((P.length + A1.length : Nat) : Int) ∧ ((P.length + A1.length : Nat) : Int) < (N : Int) := ⟨by omega, by omega⟩
    have bb : 0 ≤ ((P.length + A.length + M.length + A1.length : Nat) : Int) ∧ ((P.length + A.length + M.length + A1.length : Nat) : Int) < (N : Int) := ⟨by omega, by omega⟩
    rw [← hwa, ← hwb] at r1 s2
    rw [← hwa] at ra ba
    rw [← hwb] at rb bb
    refine ⟨bb, ?_⟩
    conv => whnf
    refine ⟨rowK y, rb, rfl, ?_⟩
    conv => whnf
    refine ⟨ba, ?_⟩
    conv => whnf
    refine ⟨rowK x, ra, rfl, ?_⟩
    conv => whnf
    refine ⟨ba, ?_⟩
    conv => whnf
    refine ⟨rowK x, ra, ?_⟩
    conv => whnf
    refine ⟨bb, ?_⟩
    conv => whnf
    refine ⟨rowK y, r1, ?_⟩
    conv => whnf
    rw [succ_i hi (by omega)]
    refine ⟨_, Nat.lt_succ_self _, A1 ++ [x], A2, B1 ++ [y], B2, by simp [hA], by simp [hB], by simp [hlen], rfl, by simp, ?_⟩
    refine congrArg (fun q => [(0, AB.row 3 q)]) (s2.trans ?_)
    simp
  · have hi := ge_of h
    have hA2 : A2 = [] := List.eq_nil_of_length_eq_zero (by omega)
    have hB2 : B2 = [] := List.eq_nil_of_length_eq_zero (by omega)
    subst hA2
    subst hB2
    rw [hA, hB]
    exact ⟨rfl, by simp⟩
end Go.Proofs.Ytkenimmellonjaa
/- Seat r2: latches turned round. -/
namespace Go.Proofs.Ytkenimmellonjaa
open Go.Pv Go.RowKit Go.Shelf
theorem sub_i {a b c : Nat} (h : a = b + c) (ha : a ≤ 4611686018427387904) : IntKind.wrap .i64 ((a : Int) - (b : Int)) = (c : Int) := by
  rw [show (a : Int) - (b : Int) = (c : Int) by omega]
  exact wrap_id (by omega) (by omega)
set_option maxHeartbeats 4000000 in
set_option maxRecDepth 100000 in
theorem rotate (f : Nat) (X U V Y : List Kt) (hU : 1 ≤ U.length) (hV : 1 ≤ V.length) (N : Nat) (hN : X.length + U.length + V.length + Y.length = N) (hl : N ≤ 100000) (cap : Nat) :
    Contract Try.prog G0 158 [.slc (.g 0) 3 0 N cap, .d (.int .i64 (X.length : Int)), .d (.int .i64 ((X.length + U.length : Nat) : Int)), .d (.int .i64 ((X.length + U.length + V.length : Nat) : Int)), .fn f []] [(0, .row 3 (rowsK (X ++ U ++ V ++ Y)))]
      (fun r t => r = .tup [] ∧ t = [(0, .row 3 (rowsK (X ++ V ++ U ++ Y)))]) := by
  refine run158 1 [] rfl rfl ?_
  conv => whnf
  rw [sub_i (a := X.length + U.length) (b := X.length) (c := U.length) rfl (by omega), sub_i (a := X.length + U.length + V.length) (b := X.length + U.length) (c := V.length) rfl (by omega)]
  refine StopG.rounds wk158 [] [0, 2, 4, 10, 11] (fun m env s => ∃ X' U' V' Y' : List Kt, X ++ V ++ U ++ Y = X' ++ V' ++ U' ++ Y' ∧ X'.length + U'.length = X.length + U.length ∧ X'.length + U'.length + V'.length + Y'.length = N ∧ 1 ≤ U'.length ∧ 1 ≤ V'.length ∧ m = U'.length + V'.length ∧
    env = [(0, .slc (.g 0) 3 0 N cap), (2, .d (.int .i64 ((X'.length + U'.length : Nat) : Int))), (4, .fn f []), (10, .d (.int .i64 (U'.length : Int))), (11, .d (.int .i64 (V'.length : Int)))] ∧ s = [(0, .row 3 (rowsK (X' ++ U' ++ V' ++ Y')))]) rfl ?_ ?_
  · conv => whnf
    exact ⟨_, X, U, V, Y, rfl, rfl, hN, hU, hV, rfl, rfl, rfl⟩
  clear hU hV
  rintro m env s ⟨X', U', V', Y', hT, hm, hN', hU, hV, rfl, rfl, rfl⟩
  rw [hT]
  conv => whnf
  refine bcase_intro (fun h => ?_) (fun h => ?_) <;> conv => whnf
  · have hne : U'.length ≠ V'.length := fun e => by rw [e] at h; simp at h
    refine bcase_intro (fun h2 => ?_) (fun h2 => ?_) <;> conv => whnf
    · have hgt : V'.length < U'.length := by have := of_decide_eq_true h2; omega
      have hlA : (U'.take V'.length).length = V'.length := by rw [List.length_take]; omega
      have hlM : (U'.drop V'.length).length = U'.length - V'.length := List.length_drop ..
      have hsw := swapRange f X' (U'.take V'.length) (U'.drop V'.length) V' Y' hlA N (by rw [hlA, hlM]; omega) hl cap
      rw [hlA, hlM, show X'.length + V'.length + (U'.length - V'.length) = X'.length + U'.length by omega, show X' ++ U'.take V'.length ++ U'.drop V'.length ++ V' ++ Y' = X' ++ U' ++ V' ++ Y' by rw [List.append_assoc X', List.take_append_drop]] at hsw
      rw [sub_i (a := X'.length + U'.length) (b := U'.length) (c := X'.length) (by omega) (by omega)]
      refine .obj rfl ?_
      conv => whnf
      refine ⟨_, _, ⟨WkL.refl _, hsw⟩, fun res s1 hs => ?_⟩
      obtain ⟨rfl, rfl⟩ := hs
      conv => whnf
      rw [sub_i (a := U'.length) (b := V'.length) (c := (U'.drop V'.length).length) (by omega) (by omega)]
      refine ⟨_, ?_, X' ++ V', U'.drop V'.length, U'.take V'.length, Y', ?_, ?_, ?_, ?_, ?_, rfl, ?_, ?_⟩
      · rw [hlM, hlA]; omega
      · conv => lhs; rw [← List.take_append_drop V'.length U']
        simp
      · rw [List.length_append, hlM]; omega
      · rw [List.length_append, hlM, hlA]; omega
      · rw [hlM]; omega
      · rw [hlA]; omega
      · rw [hlA, hlM, List.length_append, show X'.length + V'.length + (U'.length - V'.length) = X'.length + U'.length by omega]
      · rfl
    · have hlt : U'.length < V'.length := by have := of_decide_eq_false h2; omega
      have hlM : (V'.take (V'.length - U'.length)).length = V'.length - U'.length := by rw [List.length_take]; omega
      have hlB : (V'.drop (V'.length - U'.length)).length = U'.length := by rw [List.length_drop]; omega
      have hsw := swapRange f X' U' (V'.take (V'.length - U'.length)) (V'.drop (V'.length - U'.length)) Y' hlB.symm N (by rw [hlB, hlM]; omega) hl cap
      rw [hlM, show X' ++ U' ++ V'.take (V'.length - U'.length) ++ V'.drop (V'.length - U'.length) ++ Y' = X' ++ U' ++ V' ++ Y' by rw [List.append_assoc (X' ++ U'), List.take_append_drop]] at hsw
      rw [sub_i (a := X'.length + U'.length) (b := U'.length) (c := X'.length) (by omega) (by omega), sum_i (a := X'.length + U'.length) (b := V'.length) (by omega), sub_i (a := X'.length + U'.length + V'.length) (b := U'.length) (c := X'.length + U'.length + (V'.length - U'.length)) (by omega) (by omega)]
      refine .obj rfl ?_
      conv => whnf
      refine ⟨_, _, ⟨WkL.refl _, hsw⟩, fun res s1 hs => ?_⟩
      obtain ⟨rfl, rfl⟩ := hs
      conv => whnf
      rw [sub_i (a := V'.length) (b := U'.length) (c := (V'.take (V'.length - U'.length)).length) (by omega) (by omega)]
      refine ⟨_, ?_, X', V'.drop (V'.length - U'.length), V'.take (V'.length - U'.length), U' ++ Y', ?_, ?_, ?_, ?_, ?_, rfl, ?_, ?_⟩
      · rw [hlM, hlB]; omega
      · conv => lhs; rw [← List.take_append_drop (V'.length - U'.length) V']
        simp
      · rw [hlB]; omega
      · rw [List.length_append, hlM, hlB]; omega
      · rw [hlB]; omega
      · rw [hlM]; omega
      · rw [hlB]
      · simp
  · have he : U'.length = V'.length := by
      have : decide ((U'.length : Int) = (V'.length : Int)) = true := by simpa using h
      have := of_decide_eq_true this
      omega
    have hsw := swapRange f X' U' [] V' Y' he N (by simp; omega) hl cap
    rw [List.length_nil, Nat.add_zero (_ + _), List.append_nil, List.append_nil] at hsw
    rw [sub_i (a := X'.length + U'.length) (b := U'.length) (c := X'.length) (by omega) (by omega)]
    refine .obj rfl ?_
    conv => whnf
    refine ⟨_, _, ⟨WkL.refl _, hsw⟩, fun res s1 hs => ?_⟩
    obtain ⟨rfl, rfl⟩ := hs
    conv => whnf
    exact ⟨rfl, rfl⟩
end Go.Proofs.Ytkenimmellonjaa
/- Seat r2: what is in order, stable, told without a program. -/
namespace Go.Proofs.Ytkenimmellonjaa
open Go.Pv Go.RowKit Go.Shelf
/-- A comparison that orders: less is told by a negative number. -/
structure Ordr (c : Kt → Kt → Int) : Prop where
  asm : ∀ x y, c x y < 0 → ¬ c y x < 0
  tr : ∀ x y z, ¬ c y x < 0 → ¬ c z y < 0 → ¬ c z x < 0
theorem Ordr.irr {c : Kt → Kt → Int} (O : Ordr c) (x : Kt) : ¬ c x x < 0 := fun h => O.asm x x h h
theorem Ordr.lt_le {c : Kt → Kt → Int} (O : Ordr c) {x y z : Kt} (h1 : c x y < 0) (h2 : ¬ c z y < 0) : c x z < 0 := by
  by_cases h : c x z < 0
  · exact h
  · exact absurd h1 (O.tr y z x h2 h)
theorem Ordr.le_lt {c : Kt → Kt → Int} (O : Ordr c) {x y z : Kt} (h1 : ¬ c y x < 0) (h2 : c y z < 0) : c x z < 0 := by
  by_cases h : c x z < 0
  · exact h
  · exact absurd h2 (O.tr z x y h h1)
theorem Ordr.lt_lt {c : Kt → Kt → Int} (O : Ordr c) {x y z : Kt} (h1 : c x y < 0) (h2 : c y z < 0) : c x z < 0 := O.lt_le h1 (O.asm _ _ h2)
def eqv (c : Kt → Kt → Int) (k x : Kt) : Bool := !decide (c x k < 0) && !decide (c k x < 0)
theorem eqv_iff {c : Kt → Kt → Int} {k x : Kt} : eqv c k x = true ↔ ¬ c x k < 0 ∧ ¬ c k x < 0 := by simp [eqv]
/-- Each class stands as it stood. -/
def Stb (c : Kt → Kt → Int) (l o : List Kt) : Prop := ∀ k, o.filter (eqv c k) = l.filter (eqv c k)
def Srt (c : Kt → Kt → Int) (l : List Kt) : Prop := l.Pairwise fun x y => ¬ c y x < 0
theorem Stb.refl (c : Kt → Kt → Int) (l : List Kt) : Stb c l l := fun _ => rfl
theorem Stb.trans {c : Kt → Kt → Int} {l o q : List Kt} (h : Stb c l o) (h2 : Stb c o q) : Stb c l q := fun k => (h2 k).trans (h k)
theorem Stb.app {c : Kt → Kt → Int} {l o l2 o2 : List Kt} (h : Stb c l o) (h2 : Stb c l2 o2) : Stb c (l ++ l2) (o ++ o2) := fun k => by
  rw [List.filter_append, List.filter_append, h k, h2 k]
theorem Stb.swap {c : Kt → Kt → Int} (O : Ordr c) {U V : List Kt} (h : ∀ u ∈ U, ∀ v ∈ V, c v u < 0) : Stb c (U ++ V) (V ++ U) := fun k => by
  rw [List.filter_append, List.filter_append]
  by_cases hu : ∃ u ∈ U, eqv c k u = true
  · obtain ⟨u, hu, hk⟩ := hu
    have hv : V.filter (eqv c k) = [] := by
      rw [List.filter_eq_nil_iff]
      intro v hv hkv
      have h1 := eqv_iff.1 hk
      have h2 := eqv_iff.1 hkv
      exact h2.1 (O.lt_le (h u hu v hv) h1.2)
    rw [hv]; simp
  · have hU : U.filter (eqv c k) = [] := by
      rw [List.filter_eq_nil_iff]
      exact fun u h1 h2 => hu ⟨u, h1, h2⟩
    rw [hU]; simp
theorem eqv_self {c : Kt → Kt → Int} (O : Ordr c) (x : Kt) : eqv c x x = true := eqv_iff.2 ⟨O.irr x, O.irr x⟩
theorem Stb.mem {c : Kt → Kt → Int} (O : Ordr c) {l o : List Kt} (h : Stb c l o) (x : Kt) : x ∈ o ↔ x ∈ l := by
  have e := h x
  constructor
  · intro hx
    have : x ∈ o.filter (eqv c x) := List.mem_filter.2 ⟨hx, eqv_self O x⟩
    rw [e] at this
    exact (List.mem_filter.1 this).1
  · intro hx
    have : x ∈ l.filter (eqv c x) := List.mem_filter.2 ⟨hx, eqv_self O x⟩
    rw [← e] at this
    exact (List.mem_filter.1 this).1
theorem Stb.perm {c : Kt → Kt → Int} (O : Ordr c) {l o : List Kt} (h : Stb c l o) : o.Perm l := by
  rw [List.perm_iff_count]
  intro x
  have key : ∀ q : List Kt, List.count x (q.filter (eqv c x)) = List.count x q := fun q => List.count_filter (eqv_self O x)
  rw [← key o, h x, key l]
theorem Stb.len {c : Kt → Kt → Int} (O : Ordr c) {l o : List Kt} (h : Stb c l o) : o.length = l.length := (h.perm O).length_eq
theorem Srt.app {c : Kt → Kt → Int} {a b : List Kt} (h : Srt c a) (h2 : Srt c b) (h3 : ∀ x ∈ a, ∀ y ∈ b, ¬ c y x < 0) : Srt c (a ++ b) := List.pairwise_append.2 ⟨h, h2, h3⟩
theorem Srt.left {c : Kt → Kt → Int} {a b : List Kt} (h : Srt c (a ++ b)) : Srt c a := (List.pairwise_append.1 h).1
theorem Srt.right {c : Kt → Kt → Int} {a b : List Kt} (h : Srt c (a ++ b)) : Srt c b := (List.pairwise_append.1 h).2.1
theorem Srt.cross {c : Kt → Kt → Int} {a b : List Kt} (h : Srt c (a ++ b)) : ∀ x ∈ a, ∀ y ∈ b, ¬ c y x < 0 := (List.pairwise_append.1 h).2.2
/-- The order is one alone. -/
theorem Srt.uniq {c : Kt → Kt → Int} (O : Ordr c) : ∀ {l o : List Kt}, Srt c l → Srt c o → Stb c l o → o = l
  | [], o, _, _, h => List.eq_nil_of_length_eq_zero (h.len O)
  | x :: l, [], _, _, h => by have := h.len O; simp at this
  | x :: l, y :: o, h1, h2, h => by
    have hxy : x = y := by
      have hx : x ∈ y :: o := (h.mem O x).2 (List.mem_cons_self ..)
      have hy : y ∈ x :: l := (h.mem O y).1 (List.mem_cons_self ..)
      have a : ¬ c y x < 0 := by
        rcases List.mem_cons.1 hy with e | e
        · rw [e]; exact O.irr x
        · exact (List.pairwise_cons.1 h1).1 y e
      have b : ¬ c x y < 0 := by
        rcases List.mem_cons.1 hx with e | e
        · rw [e]; exact O.irr y
        · exact (List.pairwise_cons.1 h2).1 x e
      have e := h x
      rw [List.filter_cons_of_pos (eqv_iff.2 ⟨a, b⟩), List.filter_cons_of_pos (eqv_self O x)] at e
      exact (List.cons.inj e).1.symm
    subst hxy
    have : o = l := Srt.uniq O (List.pairwise_cons.1 h1).2 (List.pairwise_cons.1 h2).2 fun k => by
      have e := h k
      rw [List.filter_cons, List.filter_cons] at e
      split at e
      · exact (List.cons.inj e).2
      · exact e
    rw [this]
theorem insV_srt {c : Kt → Kt → Int} (O : Ordr c) (x : Kt) : ∀ {l : List Kt}, (l.Pairwise fun a b => ¬ c a b < 0) → ((insV c x l).Pairwise fun a b => ¬ c a b < 0)
  | [], _ => List.pairwise_singleton ..
  | y :: r, h => by
    obtain ⟨h1, h2⟩ := List.pairwise_cons.1 h
    rw [insV_step]
    split
    · rename_i hc
      refine List.pairwise_cons.2 ⟨fun z hz => ?_, insV_srt O x h2⟩
      have hm : ∀ (r : List Kt), z ∈ insV c x r → z = x ∨ z ∈ r := by
        intro r
        induction r with
        | nil => intro hz; exact .inl (List.mem_singleton.1 hz)
        | cons w r ih =>
          intro hz
          rw [insV_step] at hz
          split at hz
          · rcases List.mem_cons.1 hz with e | e
            · exact .inr (by rw [e]; exact List.mem_cons_self ..)
            · rcases ih e with e | e
              · exact .inl e
              · exact .inr (List.mem_cons_of_mem _ e)
          · rcases List.mem_cons.1 hz with e | e
            · exact .inl e
            · exact .inr e
      rcases hm r hz with e | e
      · rw [e]; exact O.asm _ _ hc
      · exact h1 z e
    · rename_i hc
      refine List.pairwise_cons.2 ⟨fun z hz => ?_, h⟩
      rcases List.mem_cons.1 hz with e | e
      · rw [e]; exact hc
      · exact O.tr z y x (h1 z e) hc
theorem sortV_srt {c : Kt → Kt → Int} (O : Ordr c) (l : List Kt) : (sortV c l).Pairwise fun a b => ¬ c a b < 0 := by
  have key : ∀ (l acc : List Kt), (acc.Pairwise fun a b => ¬ c a b < 0) → ((l.foldl (fun acc x => insV c x acc) acc).Pairwise fun a b => ¬ c a b < 0) := by
    intro l
    induction l with
    | nil => exact fun _ h => h
    | cons x r ih => exact fun acc h => ih _ (insV_srt O x h)
  exact key l [] List.Pairwise.nil
theorem sortK_srt {c : Kt → Kt → Int} (O : Ordr c) (l : List Kt) : Srt c (sortK c l) := by
  unfold Srt sortK
  rw [List.pairwise_reverse]
  exact sortV_srt O l
theorem insV_stb {c : Kt → Kt → Int} (O : Ordr c) (x : Kt) : ∀ (r : List Kt), Stb c (x :: r) (insV c x r)
  | [] => Stb.refl _ _
  | y :: r => by
    rw [insV_step]
    split
    · rename_i hc
      have h1 : Stb c (x :: y :: r) (y :: x :: r) := by
        have := (Stb.swap O (U := [y]) (V := [x]) (fun u hu v hv => by rw [List.mem_singleton.1 hu, List.mem_singleton.1 hv]; exact hc))
        exact fun k => ((Stb.app this (Stb.refl c r)) k).symm
      exact h1.trans (Stb.app (Stb.refl c [y]) (insV_stb O x r))
    · exact Stb.refl _ _
theorem sortK_stb {c : Kt → Kt → Int} (O : Ordr c) (l : List Kt) : Stb c l (sortK c l) := by
  have rv : ∀ {a b : List Kt}, Stb c a b → Stb c a.reverse b.reverse := fun h k => by rw [List.filter_reverse, List.filter_reverse, h k]
  have key : ∀ (l acc : List Kt), Stb c (l.reverse ++ acc) (l.foldl (fun acc x => insV c x acc) acc) := by
    intro l
    induction l with
    | nil => exact fun _ => Stb.refl _ _
    | cons x r ih =>
      intro acc
      have h := Stb.app (Stb.refl c r.reverse) (insV_stb O x acc)
      rw [List.reverse_cons, List.append_assoc]
      exact Stb.trans h (ih _)
  have := rv (key l [])
  rw [List.append_nil, List.reverse_reverse] at this
  exact this
theorem sortK_len (c : Kt → Kt → Int) (l : List Kt) : (sortK c l).length = l.length := by rw [sortK, List.length_reverse, sortV_len]
/-- Of two that are in order, parts of each changed over, each then put in order: the whole is. -/
theorem merge_parts {c : Kt → Kt → Int} (O : Ordr c) {A1 A2 B1 B2 o1 o2 : List Kt} (hA : Srt c (A1 ++ A2)) (hB : Srt c (B1 ++ B2)) (h1 : ∀ x ∈ A1, ∀ y ∈ B2, ¬ c y x < 0) (h2 : ∀ x ∈ A2, ∀ y ∈ B1, c y x < 0)
    (s1 : Srt c o1) (s2 : Srt c o2) (t1 : Stb c (A1 ++ B1) o1) (t2 : Stb c (A2 ++ B2) o2) : Srt c (o1 ++ o2) ∧ Stb c (A1 ++ A2 ++ (B1 ++ B2)) (o1 ++ o2) := by
  refine ⟨Srt.app s1 s2 fun x hx y hy => ?_, ?_⟩
  · have hx := (t1.mem O x).1 hx
    have hy := (t2.mem O y).1 hy
    rcases List.mem_append.1 hx with hx | hx <;> rcases List.mem_append.1 hy with hy | hy
    · exact hA.cross x hx y hy
    · exact h1 x hx y hy
    · exact O.asm _ _ (h2 y hy x hx)
    · exact hB.cross x hx y hy
  · have e : Stb c (A1 ++ (A2 ++ B1) ++ B2) (A1 ++ (B1 ++ A2) ++ B2) := Stb.app (Stb.app (Stb.refl _ _) (Stb.swap O h2)) (Stb.refl _ _)
    have e2 : Stb c (A1 ++ B1 ++ (A2 ++ B2)) (o1 ++ o2) := Stb.app t1 t2
    have q1 : A1 ++ A2 ++ (B1 ++ B2) = A1 ++ (A2 ++ B1) ++ B2 := by simp
    have q2 : A1 ++ (B1 ++ A2) ++ B2 = A1 ++ B1 ++ (A2 ++ B2) := by simp
    rw [q1]
    rw [q2] at e
    exact e.trans e2
end Go.Proofs.Ytkenimmellonjaa
/- Seat r2: two ranges in order made one: one latch against many. -/
namespace Go.Proofs.Ytkenimmellonjaa
open Go.Pv Go.RowKit Go.Shelf
theorem srt_get {c : Kt → Kt → Int} (O : Ordr c) {l : List Kt} (h : Srt c l) {i j : Nat} (hij : i ≤ j) {x y : Kt} (hx : l[i]? = some x) (hy : l[j]? = some y) : ¬ c y x < 0 := by
  rcases Nat.lt_or_eq_of_le hij with hlt | rfl
  · obtain ⟨hi, rfl⟩ := List.getElem?_eq_some_iff.1 hx
    obtain ⟨hj, rfl⟩ := List.getElem?_eq_some_iff.1 hy
    exact List.pairwise_iff_getElem.1 h i j hi hj hlt
  · rw [hx] at hy
    cases hy
    exact O.irr x
theorem mem_take {l : List Kt} {n : Nat} {y : Kt} (h : y ∈ l.take n) : ∃ i, i < n ∧ l[i]? = some y := by
  obtain ⟨i, hi, rfl⟩ := List.mem_iff_getElem.1 h
  rw [List.length_take] at hi
  exact ⟨i, by omega, by rw [List.getElem_take]; exact List.getElem?_eq_getElem _⟩
theorem mem_drop {l : List Kt} {n : Nat} {y : Kt} (h : y ∈ l.drop n) : ∃ i, n ≤ i ∧ l[i]? = some y := by
  obtain ⟨i, hi, rfl⟩ := List.mem_iff_getElem.1 h
  rw [List.length_drop] at hi
  exact ⟨n + i, by omega, by rw [List.getElem_drop]; exact List.getElem?_eq_getElem _⟩
theorem half_i {a b : Nat} (h : a + b ≤ 1000000) : IntKind.wrap .i64 ((IntKind.wrap .u64 (IntKind.wrap .i64 ((a : Int) + (b : Int)))).fdiv (2 ^ min 1 IntKind.u64.bits)) = (((a + b) / 2 : Nat) : Int) := by
  rw [sum_i (by omega)]
  have e1 : IntKind.wrap .u64 ((a + b : Nat) : Int) = ((a + b : Nat) : Int) := by
    unfold IntKind.wrap
    simp [IntKind.signed, IntKind.bits]
    omega
  rw [e1]
  have e2 : ((a + b : Nat) : Int).fdiv (2 ^ min 1 IntKind.u64.bits) = (((a + b) / 2 : Nat) : Int) := by
    rw [show (2 : Int) ^ min 1 IntKind.u64.bits = ((2 : Nat) : Int) from rfl, Int.fdiv_eq_ediv_of_nonneg _ (by omega)]
    omega
  rw [e2]
  exact wrap_id (by omega) (by omega)
theorem dec_i {a c : Nat} (h : a = c + 1) (ha : a ≤ 4611686018427387904) : IntKind.wrap .i64 ((a : Int) - 1) = (c : Int) := by
  rw [show (a : Int) - 1 = (c : Int) by omega]
  exact wrap_id (by omega) (by omega)
theorem rowK_at {L : List Kt} {i : Nat} {x : Kt} (h : L[i]? = some x) : (rowsK L)[0 + (i : Int).toNat]? = some (rowK x) := row_g h
set_option maxHeartbeats 4000000 in
set_option maxRecDepth 100000 in
theorem symOne (f : Nat) (c : Kt → Kt → Int) (O : Ordr c) (hf : ∀ x y : Kt, Contract Try.prog G0 f [latV x.1 x.2.1 x.2.2, latV y.1 y.2.1 y.2.2] [] (fun r t => r = .d (.int .i64 (c x y)) ∧ t = []))
    (P : List Kt) (x : Kt) (B Q : List Kt) (hB : Srt c B) (N : Nat) (hN : P.length + 1 + B.length + Q.length = N) (hl : N ≤ 100000) (cap : Nat) :
    Contract Try.prog G0 143 [.slc (.g 0) 3 0 N cap, .d (.int .i64 (P.length : Int)), .d (.int .i64 ((P.length + 1 : Nat) : Int)), .d (.int .i64 ((P.length + 1 + B.length : Nat) : Int)), .fn f []] [(0, .row 3 (rowsK (P ++ x :: B ++ Q)))]
      (fun r t => ∃ o, r = .tup [] ∧ Srt c o ∧ Stb c (x :: B) o ∧ t = [(0, .row 3 (rowsK (P ++ o ++ Q)))]) := by
  refine run143 1 [] rfl rfl ?_
  conv => whnf
  rw [sub_i (a := P.length + 1) (b := P.length) (c := 1) rfl (by omega)]
  conv => whnf
  refine StopG.rounds wk143 [] [0, 1, 4, 10, 11] (fun m env s => ∃ p q : Nat, p ≤ q ∧ q ≤ B.length ∧ (∀ y, 0 < p → B[p - 1]? = some y → c y x < 0) ∧ (∀ y, B[q]? = some y → ¬ c y x < 0) ∧ m = q - p ∧
    env = [(0, .slc (.g 0) 3 0 N cap), (1, .d (.int .i64 (P.length : Int))), (4, .fn f []), (10, .d (.int .i64 ((P.length + 1 + p : Nat) : Int))), (11, .d (.int .i64 ((P.length + 1 + q : Nat) : Int)))] ∧ s = [(0, .row 3 (rowsK (P ++ x :: B ++ Q)))]) rfl ?_ ?_
  · conv => whnf
    refine ⟨_, 0, B.length, Nat.zero_le _, Nat.le_refl _, fun y h => absurd h (Nat.lt_irrefl _), fun y h => ?_, rfl, rfl, rfl⟩
    rw [List.getElem?_eq_none (Nat.le_refl _)] at h; cases h
  rintro m env s ⟨p, q, hpq, hq, hlo, hhi, rfl, rfl, rfl⟩
  conv => whnf
  have hxr : (rowsK (P ++ x :: B ++ Q))[0 + (P.length : Int).toNat]? = some (rowK x) := by rw [List.append_assoc]; exact mid_row rfl
  refine bcase_intro (fun h => ?_) (fun h => ?_) <;> conv => whnf
  · have hlt := lt_of h
    rw [half_i (by omega)]
    have hmid : (P.length + 1 + p + (P.length + 1 + q)) / 2 = P.length + 1 + (p + q) / 2 := by omega
    rw [hmid]
    obtain ⟨y, hy, _⟩ := at_i (show (p + q) / 2 < B.length by omega)
    have hyr : (rowsK (P ++ x :: B ++ Q))[0 + ((P.length + 1 + (p + q) / 2 : Nat) : Int).toNat]? = some (rowK y) := by
      refine rowK_at ?_
      rw [List.append_assoc, List.getElem?_append_right (by omega), show P.length + 1 + (p + q) / 2 - P.length = (p + q) / 2 + 1 by omega]
      show (B ++ Q)[(p + q) / 2]? = some y
      rw [List.getElem?_append_left (by omega)]
      exact hy
    refine ⟨⟨by omega, by omega⟩, ?_⟩
    conv => whnf
    refine ⟨rowK y, hyr, rfl, ?_⟩
    conv => whnf
    refine ⟨⟨by omega, by omega⟩, ?_⟩
    conv => whnf
    refine ⟨rowK x, hxr, rfl, ?_⟩
    conv => whnf
    refine .scal [latV y.1 y.2.1 y.2.2, latV x.1 x.2.1 x.2.2] _ ⟨.refl _, rfl, hf y x⟩ ?_
    conv => whnf
    refine bcase_intro (fun h2 => ?_) (fun h2 => ?_) <;> conv => whnf
    · have h2 := of_decide_eq_true h2
      rw [succ_i (i := P.length + 1 + (p + q) / 2) (Nat.lt_succ_self _) (by omega)]
      refine ⟨_, ?_, (p + q) / 2 + 1, q, by omega, hq, fun z _ hz => ?_, hhi, rfl, rfl, rfl⟩
      · omega
      · rw [Nat.add_sub_cancel, hy] at hz
        cases hz
        exact h2
    · have h2 := of_decide_eq_false h2
      refine ⟨_, ?_, p, (p + q) / 2, by omega, by omega, hlo, fun z hz => ?_, rfl, rfl, rfl⟩
      · omega
      · rw [hy] at hz
        cases hz
        exact h2
  · have hge := ge_of h
    have hpq : q = p := by omega
    subst hpq
    have hlt1 : ∀ y ∈ B.take q, c y x < 0 := fun y hy => by
      obtain ⟨i, hi, hy⟩ := mem_take hy
      obtain ⟨z, hz, _⟩ := at_i (show q - 1 < B.length by omega)
      exact O.le_lt (srt_get O hB (show i ≤ q - 1 by omega) hy hz) (hlo z (by omega) hz)
    have hge1 : ∀ y ∈ B.drop q, ¬ c y x < 0 := fun y hy => by
      obtain ⟨i, hi, hy⟩ := mem_drop hy
      have hil := (List.getElem?_eq_some_iff.1 hy).1
      obtain ⟨z, hz, _⟩ := at_i (show q < B.length by omega)
      exact O.tr _ _ _ (hhi z hz) (srt_get O hB hi hz hy)
    have hlB : (B.take q).length = q := by rw [List.length_take]; omega
    generalize hB1 : B.take q = B1 at hlt1 hlB
    generalize hB2 : B.drop q = B2 at hge1
    have hBB : B = B1 ++ B2 := by rw [← hB1, ← hB2, List.take_append_drop]
    subst hBB
    clear hB1 hB2 hlo hhi
    refine StopG.rounds wk143 [] [0, 10, 13] (fun m env s => ∃ C1 C2 : List Kt, B1 = C1 ++ C2 ∧ m = C2.length ∧
      env = [(0, .slc (.g 0) 3 0 N cap), (10, .d (.int .i64 ((P.length + 1 + q : Nat) : Int))), (13, .d (.int .i64 ((P.length + C1.length : Nat) : Int)))] ∧ s = [(0, .row 3 (rowsK (P ++ C1 ++ x :: C2 ++ B2 ++ Q)))]) rfl ?_ ?_
    · conv => whnf
      exact ⟨_, [], B1, rfl, rfl, rfl, by simp⟩
    rintro m env s ⟨C1, C2, rfl, rfl, rfl, rfl⟩
    conv => whnf
    rw [List.length_append] at hlB
    rw [dec_i (a := P.length + 1 + q) (c := P.length + q) (by omega) (by omega)]
    refine bcase_intro (fun h => ?_) (fun h => ?_) <;> conv => whnf
    · have hlt := lt_of h
      match C2, hlB with
      | [], hlB => exact absurd hlt (by rw [List.length_nil] at hlB; omega)
      | y :: C2, hlB =>
      rw [List.length_cons] at hlB
      have hw : IntKind.wrap .i64 (((P.length + C1.length : Nat) : Int) + 1) = ((P.length + C1.length + 1 : Nat) : Int) := succ_i (Nat.lt_succ_self _) (by omega)
      have e0 : P ++ C1 ++ x :: (y :: C2) ++ B2 ++ Q = (P ++ C1) ++ x :: (y :: C2 ++ B2 ++ Q) := by simp
      have e1 : P ++ C1 ++ x :: (y :: C2) ++ B2 ++ Q = (P ++ C1 ++ [x]) ++ y :: (C2 ++ B2 ++ Q) := by simp
      have rx : (rowsK (P ++ C1 ++ x :: (y :: C2) ++ B2 ++ Q))[0 + ((P.length + C1.length : Nat) : Int).toNat]? = some (rowK x) := by rw [e0]; exact mid_row (by simp)
      have ry : (rowsK (P ++ C1 ++ x :: (y :: C2) ++ B2 ++ Q))[0 + ((P.length + C1.length + 1 : Nat) : Int).toNat]? = some (rowK y) := by rw [e1]; exact mid_row (by simp; omega)
      have s1 : (rowsK (P ++ C1 ++ x :: (y :: C2) ++ B2 ++ Q)).set (0 + ((P.length + C1.length : Nat) : Int).toNat) (rowK y) = rowsK ((P ++ C1 ++ [y]) ++ y :: (C2 ++ B2 ++ Q)) := by rw [e0, mid_put (by simp)]; simp
      have r1 : ((rowsK (P ++ C1 ++ x :: (y :: C2) ++ B2 ++ Q)).set (0 + ((P.length + C1.length : Nat) : Int).toNat) (rowK y))[0 + ((P.length + C1.length + 1 : Nat) : Int).toNat]? = some (rowK y) := by rw [s1]; exact mid_row (by simp; omega)
      have s2 : ((rowsK (P ++ C1 ++ x :: (y :: C2) ++ B2 ++ Q)).set (0 + ((P.length + C1.length : Nat) : Int).toNat) (rowK y)).set (0 + ((P.length + C1.length + 1 : Nat) : Int).toNat) (rowK x) = rowsK ((P ++ C1 ++ [y]) ++ x :: (C2 ++ B2 ++ Q)) := by rw [s1]; exact mid_put (by simp; omega)
      simp only [List.length_append, List.length_cons] at hN
      have ba : 0 ≤ ((P.length + C1.length : Nat) : Int) ∧ ((P.length + C1.length : Nat) : Int) < (N : Int) := ⟨by omega, by omega⟩
      have bb : 0 ≤ ((P.length + C1.length + 1 : Nat) : Int) ∧ ((P.length + C1.length + 1 : Nat) : Int) < (N : Int) := ⟨by omega, by omega⟩
      have hw2 := hw
      rw [← hw] at ry r1 s2 bb
      refine ⟨bb, ?_⟩
      conv => whnf
      refine ⟨rowK y, ry, rfl, ?_⟩
      conv => whnf
      refine ⟨ba, ?_⟩
      conv => whnf
      refine ⟨rowK x, rx, rfl, ?_⟩
      conv => whnf
      refine ⟨ba, ?_⟩
      conv => whnf
      refine ⟨rowK x, rx, ?_⟩
      conv => whnf
      refine ⟨bb, ?_⟩
      conv => whnf
      refine ⟨rowK y, r1, ?_⟩
      conv => whnf
      refine ⟨_, Nat.lt_succ_self _, C1 ++ [y], C2, by simp, rfl, ?_, ?_⟩
      · rw [hw2, List.length_append]; rfl
      · refine congrArg (fun q => [(0, AB.row 3 q)]) (s2.trans ?_)
        simp
    · have hge := ge_of h
      have hC2 : C2 = [] := List.eq_nil_of_length_eq_zero (by omega)
      subst hC2
      rw [List.append_nil] at hlt1 hB
      have hm := merge_parts O (A1 := []) (A2 := [x]) (B1 := C1) (B2 := B2) (o1 := C1) (o2 := x :: B2) (List.pairwise_singleton ..) hB (fun a ha => by cases ha) (fun a ha b hb => by rw [List.mem_singleton.1 ha]; exact hlt1 b hb) hB.left (List.pairwise_cons.2 ⟨hge1, hB.right⟩) (Stb.refl _ _) (Stb.refl _ _)
      exact ⟨C1 ++ x :: B2, rfl, hm.1, by simpa using hm.2, by simp⟩
end Go.Proofs.Ytkenimmellonjaa
/- Seat r2: two ranges in order made one: many latches against one. -/
namespace Go.Proofs.Ytkenimmellonjaa
open Go.Pv Go.RowKit Go.Shelf
theorem not_one {n : Nat} (h : 2 ≤ n) : ((n : Int) == 1) = false := beq_eq_false_iff_ne.2 (by omega)
set_option maxHeartbeats 4000000 in
set_option maxRecDepth 100000 in
theorem symTwo (f : Nat) (c : Kt → Kt → Int) (O : Ordr c) (hf : ∀ x y : Kt, Contract Try.prog G0 f [latV x.1 x.2.1 x.2.2, latV y.1 y.2.1 y.2.2] [] (fun r t => r = .d (.int .i64 (c x y)) ∧ t = []))
    (P A : List Kt) (y : Kt) (Q : List Kt) (hA2 : 2 ≤ A.length) (hA : Srt c A) (N : Nat) (hN : P.length + A.length + 1 + Q.length = N) (hl : N ≤ 100000) (cap : Nat) :
    Contract Try.prog G0 143 [.slc (.g 0) 3 0 N cap, .d (.int .i64 (P.length : Int)), .d (.int .i64 ((P.length + A.length : Nat) : Int)), .d (.int .i64 ((P.length + A.length + 1 : Nat) : Int)), .fn f []] [(0, .row 3 (rowsK (P ++ A ++ y :: Q)))]
      (fun r t => ∃ o, r = .tup [] ∧ Srt c o ∧ Stb c (A ++ [y]) o ∧ t = [(0, .row 3 (rowsK (P ++ o ++ Q)))]) := by
  refine run143 1 [] rfl rfl ?_
  conv => whnf
  rw [sub_i (a := P.length + A.length) (b := P.length) (c := A.length) rfl (by omega), not_one hA2]
  conv => whnf
  rw [sub_i (a := P.length + A.length + 1) (b := P.length + A.length) (c := 1) rfl (by omega)]
  conv => whnf
  refine StopG.rounds wk143 [] [0, 1, 2, 4, 14, 15] (fun m env s => ∃ p q : Nat, p ≤ q ∧ q ≤ A.length ∧ (∀ z, 0 < p → A[p - 1]? = some z → ¬ c y z < 0) ∧ (∀ z, A[q]? = some z → c y z < 0) ∧ m = q - p ∧
    env = [(0, .slc (.g 0) 3 0 N cap), (1, .d (.int .i64 (P.length : Int))), (2, .d (.int .i64 ((P.length + A.length : Nat) : Int))), (4, .fn f []), (14, .d (.int .i64 ((P.length + p : Nat) : Int))), (15, .d (.int .i64 ((P.length + q : Nat) : Int)))] ∧ s = [(0, .row 3 (rowsK (P ++ A ++ y :: Q)))]) rfl ?_ ?_
  · conv => whnf
    refine ⟨_, 0, A.length, Nat.zero_le _, Nat.le_refl _, fun y h => absurd h (Nat.lt_irrefl _), fun y h => ?_, rfl, rfl, rfl⟩
    rw [List.getElem?_eq_none (Nat.le_refl _)] at h; cases h
  rintro m env s ⟨p, q, hpq, hq, hlo, hhi, rfl, rfl, rfl⟩
  conv => whnf
  have hyr : (rowsK (P ++ A ++ y :: Q))[0 + ((P.length + A.length : Nat) : Int).toNat]? = some (rowK y) := mid_row (by simp)
  refine bcase_intro (fun h => ?_) (fun h => ?_) <;> conv => whnf
  · have hlt := lt_of h
    rw [half_i (by omega)]
    have hmid : (P.length + p + (P.length + q)) / 2 = P.length + (p + q) / 2 := by omega
    rw [hmid]
    obtain ⟨z, hz, _⟩ := at_i (show (p + q) / 2 < A.length by omega)
    have hzr : (rowsK (P ++ A ++ y :: Q))[0 + ((P.length + (p + q) / 2 : Nat) : Int).toNat]? = some (rowK z) := by
      refine rowK_at ?_
      rw [List.append_assoc, List.getElem?_append_right (by omega), Nat.add_sub_cancel_left, List.getElem?_append_left (by omega)]
      exact hz
    refine ⟨⟨by omega, by omega⟩, ?_⟩
    conv => whnf
    refine ⟨rowK y, hyr, rfl, ?_⟩
    conv => whnf
    refine ⟨⟨by omega, by omega⟩, ?_⟩
    conv => whnf
    refine ⟨rowK z, hzr, rfl, ?_⟩
    conv => whnf
    refine .scal [latV y.1 y.2.1 y.2.2, latV z.1 z.2.1 z.2.2] _ ⟨.refl _, rfl, hf y z⟩ ?_
    conv => whnf
    refine bcase_intro (fun h2 => ?_) (fun h2 => ?_) <;> conv => whnf
    · have h2 : ¬ c y z < 0 := by simpa using h2
      rw [succ_i (i := P.length + (p + q) / 2) (Nat.lt_succ_self _) (by omega)]
      refine ⟨_, ?_, (p + q) / 2 + 1, q, by omega, hq, fun w _ hw => ?_, hhi, rfl, rfl, rfl⟩
      · omega
      · rw [Nat.add_sub_cancel, hz] at hw
        cases hw
        exact h2
    · have h2 : c y z < 0 := by simpa using h2
      refine ⟨_, ?_, p, (p + q) / 2, by omega, by omega, hlo, fun w hw => ?_, rfl, rfl, rfl⟩
      · omega
      · rw [hz] at hw
        cases hw
        exact h2
  · have hge := ge_of h
    have hpq : q = p := by omega
    subst hpq
    have hle1 : ∀ z ∈ A.take q, ¬ c y z < 0 := fun z hz => by
      obtain ⟨i, hi, hz⟩ := mem_take hz
      obtain ⟨w, hw, _⟩ := at_i (show q - 1 < A.length by omega)
      exact O.tr _ _ _ (srt_get O hA (show i ≤ q - 1 by omega) hz hw) (hlo w (by omega) hw)
    have hgt1 : ∀ z ∈ A.drop q, c y z < 0 := fun z hz => by
      obtain ⟨i, hi, hz⟩ := mem_drop hz
      have hil := (List.getElem?_eq_some_iff.1 hz).1
      obtain ⟨w, hw, _⟩ := at_i (show q < A.length by omega)
      exact O.lt_le (hhi w hw) (srt_get O hA hi hw hz)
    have hlA : (A.take q).length = q := by rw [List.length_take]; omega
    generalize hA1 : A.take q = A1 at hle1 hlA
    generalize hA2 : A.drop q = A2 at hgt1
    have hAA : A = A1 ++ A2 := by rw [← hA1, ← hA2, List.take_append_drop]
    subst hAA
    clear hA1 hA2 hlo hhi
    refine StopG.rounds wk143 [] [0, 14, 17] (fun m env s => ∃ C1 C2 : List Kt, A2 = C1 ++ C2 ∧ m = C1.length ∧
      env = [(0, .slc (.g 0) 3 0 N cap), (14, .d (.int .i64 ((P.length + q : Nat) : Int))), (17, .d (.int .i64 ((P.length + A1.length + C1.length : Nat) : Int)))] ∧ s = [(0, .row 3 (rowsK (P ++ A1 ++ C1 ++ y :: C2 ++ Q)))]) rfl ?_ ?_
    · conv => whnf
      exact ⟨_, A2, [], by simp, rfl, by rw [List.length_append, Nat.add_assoc], by simp⟩
    rintro m env s ⟨C1, C2, rfl, rfl, rfl, rfl⟩
    conv => whnf
    refine bcase_intro (fun h => ?_) (fun h => ?_) <;> conv => whnf
    · have hlt : P.length + q < P.length + A1.length + C1.length := by have := of_decide_eq_true h; omega
      rcases List.eq_nil_or_concat C1 with rfl | ⟨C0, z, rfl⟩
      · exact absurd hlt (by rw [List.length_nil]; omega)
      rw [List.concat_eq_append]
      have hl1 : (C0 ++ [z]).length = C0.length + 1 := by simp
      simp only [List.length_append, List.length_concat] at hN
      rw [hl1]
      have hw : IntKind.wrap .i64 (((P.length + A1.length + (C0.length + 1) : Nat) : Int) - 1) = ((P.length + A1.length + C0.length : Nat) : Int) := dec_i (by omega) (by omega)
      have e0 : P ++ A1 ++ (C0 ++ [z]) ++ y :: C2 ++ Q = (P ++ A1 ++ C0) ++ z :: (y :: C2 ++ Q) := by simp
      have e1 : P ++ A1 ++ (C0 ++ [z]) ++ y :: C2 ++ Q = (P ++ A1 ++ C0 ++ [z]) ++ y :: (C2 ++ Q) := by simp
      have rz : (rowsK (P ++ A1 ++ (C0 ++ [z]) ++ y :: C2 ++ Q))[0 + ((P.length + A1.length + C0.length : Nat) : Int).toNat]? = some (rowK z) := by rw [e0]; exact mid_row (by simp; omega)
      have ry : (rowsK (P ++ A1 ++ (C0 ++ [z]) ++ y :: C2 ++ Q))[0 + ((P.length + A1.length + (C0.length + 1) : Nat) : Int).toNat]? = some (rowK y) := by rw [e1]; exact mid_row (by simp; omega)
      have s1 : (rowsK (P ++ A1 ++ (C0 ++ [z]) ++ y :: C2 ++ Q)).set (0 + ((P.length + A1.length + (C0.length + 1) : Nat) : Int).toNat) (rowK z) = rowsK ((P ++ A1 ++ C0) ++ z :: (z :: C2 ++ Q)) := by rw [e1, mid_put (by simp; omega)]; simp
      have r1 : ((rowsK (P ++ A1 ++ (C0 ++ [z]) ++ y :: C2 ++ Q)).set (0 + ((P.length + A1.length + (C0.length + 1) : Nat) : Int).toNat) (rowK z))[0 + ((P.length + A1.length + C0.length : Nat) : Int).toNat]? = some (rowK z) := by rw [s1]; exact mid_row (by simp; omega)
      have s2 : ((rowsK (P ++ A1 ++ (C0 ++ [z]) ++ y :: C2 ++ Q)).set (0 + ((P.length + A1.length + (C0.length + 1) : Nat) : Int).toNat) (rowK z)).set (0 + ((P.length + A1.length + C0.length : Nat) : Int).toNat) (rowK y) = rowsK ((P ++ A1 ++ C0) ++ y :: (z :: C2 ++ Q)) := by rw [s1]; exact mid_put (by simp; omega)
      have ba : 0 ≤ ((P.length + A1.length + C0.length : Nat) : Int) ∧ ((P.length + A1.length + C0.length : Nat) : Int) < (N : Int) := ⟨by omega, by omega⟩
      have bb : 0 ≤ ((P.length + A1.length + (C0.length + 1) : Nat) : Int) ∧ ((P.length + A1.length + (C0.length + 1) : Nat) : Int) < (N : Int) := ⟨by omega, by omega⟩
      have hw2 := hw
      rw [← hw] at rz r1 s2 ba
      refine ⟨ba, ?_⟩
      conv => whnf
      refine ⟨rowK z, rz, rfl, ?_⟩
      conv => whnf
      refine ⟨bb, ?_⟩
      conv => whnf
      refine ⟨rowK y, ry, rfl, ?_⟩
      conv => whnf
      refine ⟨bb, ?_⟩
      conv => whnf
      refine ⟨rowK y, ry, ?_⟩
      conv => whnf
      refine ⟨ba, ?_⟩
      conv => whnf
      refine ⟨rowK z, r1, ?_⟩
      conv => whnf
      refine ⟨_, Nat.lt_succ_self _, C0, z :: C2, by simp, rfl, ?_, ?_⟩
      · rw [hw2]
      · refine congrArg (fun q => [(0, AB.row 3 q)]) (s2.trans ?_)
        simp
    · have hge : ¬ (P.length + A1.length + C1.length > P.length + q) := by have := of_decide_eq_false h; omega
      have hC1 : C1 = [] := List.eq_nil_of_length_eq_zero (by omega)
      subst hC1
      rw [List.nil_append] at hgt1 hA
      have hm := merge_parts O (A1 := A1) (A2 := C2) (B1 := [y]) (B2 := []) (o1 := A1 ++ [y]) (o2 := C2) hA (List.pairwise_singleton ..) (fun a _ b hb => by cases hb) (fun a ha b hb => by rw [List.mem_singleton.1 hb]; exact hgt1 a ha) (Srt.app hA.left (List.pairwise_singleton ..) fun a ha b hb => by rw [List.mem_singleton.1 hb]; exact hle1 a ha) hA.right (Stb.refl _ _) (by rw [List.append_nil]; exact Stb.refl _ _)
      exact ⟨A1 ++ [y] ++ C2, rfl, hm.1, by simpa using hm.2, by simp⟩
end Go.Proofs.Ytkenimmellonjaa
/- Seat r2: two ranges in order made one: many against many. -/
namespace Go.Proofs.Ytkenimmellonjaa
open Go.Pv Go.RowKit Go.Shelf
theorem bif_lt {a b d e : Nat} (h : (bif decide ((a : Int) < (b : Int)) then decide ((d : Int) < (e : Int)) else false) = true) : a < b ∧ d < e := by
  cases h1 : decide ((a : Int) < (b : Int)) with
  | false => rw [h1] at h; cases h
  | true =>
    rw [h1] at h
    have h1 := of_decide_eq_true h1
    have h2 : decide ((d : Int) < (e : Int)) = true := h
    have h2 := of_decide_eq_true h2
    omega
theorem bif_ge {a b d e : Nat} (h : (bif decide ((a : Int) < (b : Int)) then decide ((d : Int) < (e : Int)) else false) = false) : b ≤ a ∨ e ≤ d := by
  cases h1 : decide ((a : Int) < (b : Int)) with
  | false => have h1 := of_decide_eq_false h1; omega
  | true =>
    rw [h1] at h
    have h2 : decide ((d : Int) < (e : Int)) = false := h
    have h2 := of_decide_eq_false h2
    omega
set_option maxHeartbeats 4000000 in
set_option maxRecDepth 100000 in
theorem symTail (f : Nat) (c : Kt → Kt → Int) (O : Ordr c) (hf : ∀ x y : Kt, Contract Try.prog G0 f [latV x.1 x.2.1 x.2.2, latV y.1 y.2.1 y.2.2] [] (fun r t => r = .d (.int .i64 (c x y)) ∧ t = []))
    (n : Nat) (ih : ∀ (P A B Q : List Kt), A.length + B.length ≤ n → 1 ≤ A.length → 1 ≤ B.length → Srt c A → Srt c B → ∀ N, P.length + A.length + B.length + Q.length = N → N ≤ 100000 → ∀ cap,
      Contract Try.prog G0 143 [.slc (.g 0) 3 0 N cap, .d (.int .i64 (P.length : Int)), .d (.int .i64 ((P.length + A.length : Nat) : Int)), .d (.int .i64 ((P.length + A.length + B.length : Nat) : Int)), .fn f []] [(0, .row 3 (rowsK (P ++ A ++ B ++ Q)))]
        (fun r t => ∃ o, r = .tup [] ∧ Srt c o ∧ Stb c (A ++ B) o ∧ t = [(0, .row 3 (rowsK (P ++ o ++ Q)))]))
    (P A B Q : List Kt) (hn : A.length + B.length ≤ n + 1) (hA2 : 2 ≤ A.length) (hB2 : 2 ≤ B.length) (hA : Srt c A) (hB : Srt c B) (N : Nat) (hN : P.length + A.length + B.length + Q.length = N) (hl : N ≤ 100000) (cap : Nat)
    (mid : Nat) (hmid : (P.length + (P.length + A.length + B.length)) / 2 = mid) (lo hi : Nat) (b0 : Bool) (hlo : lo = P.length ∨ lo + B.length = mid) (hhi : hi = P.length + A.length ∨ hi = mid) (h1 : P.length ≤ lo) (h2 : mid ≤ lo + B.length) (h3 : lo ≤ hi) (h4 : hi ≤ P.length + A.length) (h5 : hi ≤ mid) :
    StopG Try.prog cx143 1 R143 (KV T Try.f143.results.toList 1 fun r t => ∃ o, r = .tup [] ∧ Srt c o ∧ Stb c (A ++ B) o ∧ t = [(0, .row 3 (rowsK (P ++ o ++ Q)))])
      [0, 0, 1, 1, 1, 1, 1, 1, 1] [Fr.bl 8, Fr.sq [1, 1, 1, 1, 1, 1, 1, 1]]
      [(0, .slc (.g 0) 3 0 N cap), (1, .d (.int .i64 (P.length : Int))), (2, .d (.int .i64 ((P.length + A.length : Nat) : Int))), (3, .d (.int .i64 ((P.length + A.length + B.length : Nat) : Int))), (4, .fn f []),
        (18, .d (.int .i64 (mid : Int))), (19, .d (.int .i64 ((mid + (P.length + A.length) : Nat) : Int))), (20, .d (.int .i64 (lo : Int))), (21, .d (.int .i64 (hi : Int))), (22, .d (.int .i64 ((mid + (P.length + A.length) - 1 : Nat) : Int))), (28, .d (.bool false)), (80, .d (.bool false)), (140, .d (.bool b0))]
      [(0, .row 3 (rowsK (P ++ A ++ B ++ Q)))] := by
  refine StopG.rounds wk143 [] [0, 1, 2, 3, 4, 18, 19, 20, 21, 22] (fun m env s => ∃ st r : Nat, P.length ≤ st ∧ mid ≤ st + B.length ∧ st ≤ r ∧ r ≤ P.length + A.length ∧ r ≤ mid ∧
    (st = P.length ∨ st + B.length = mid ∨ (P.length < st ∧ ∀ x y, A[st - 1 - P.length]? = some x → B[mid - st]? = some y → ¬ c y x < 0)) ∧
    (r = P.length + A.length ∨ r = mid ∨ ∀ x y, A[r - P.length]? = some x → B[mid - 1 - r]? = some y → c y x < 0) ∧ m = r - st ∧
    env = [(0, .slc (.g 0) 3 0 N cap), (1, .d (.int .i64 (P.length : Int))), (2, .d (.int .i64 ((P.length + A.length : Nat) : Int))), (3, .d (.int .i64 ((P.length + A.length + B.length : Nat) : Int))), (4, .fn f []),
        (18, .d (.int .i64 (mid : Int))), (19, .d (.int .i64 ((mid + (P.length + A.length) : Nat) : Int))), (20, .d (.int .i64 (st : Int))), (21, .d (.int .i64 (r : Int))), (22, .d (.int .i64 ((mid + (P.length + A.length) - 1 : Nat) : Int)))] ∧ s = [(0, .row 3 (rowsK (P ++ A ++ B ++ Q)))]) rfl ?_ ?_
  · conv => whnf
    exact ⟨_, lo, hi, h1, h2, h3, h4, h5, hlo.elim .inl fun h => .inr (.inl h), hhi.elim .inl fun h => .inr (.inl h), rfl, rfl, rfl⟩
  clear hlo hhi h1 h2 h3 h4 h5 lo hi b0
  rintro m env s ⟨st, r, h1, h2, h3, h4, h5, hlo, hhi, rfl, rfl, rfl⟩
  conv => whnf
  refine bcase_intro (fun h => ?_) (fun h => ?_) <;> conv => whnf
  · have hlt := lt_of h
    rw [half_i (by omega)]
    obtain ⟨k, hk⟩ : ∃ k, (st + r) / 2 = k := ⟨_, rfl⟩
    rw [hk]
    obtain ⟨x, hx, _⟩ := at_i (show k - P.length < A.length by omega)
    obtain ⟨y, hy, _⟩ := at_i (show mid - 1 - k < B.length by omega)
    have hxr : (rowsK (P ++ A ++ B ++ Q))[0 + (k : Int).toNat]? = some (rowK x) := by
      refine rowK_at ?_
      rw [List.append_assoc, List.append_assoc, List.getElem?_append_right (by omega), List.getElem?_append_left (by omega)]
      exact hx
    have hyr : (rowsK (P ++ A ++ B ++ Q))[0 + ((P.length + A.length + (mid - 1 - k) : Nat) : Int).toNat]? = some (rowK y) := by
      refine rowK_at ?_
      rw [List.append_assoc, List.getElem?_append_right (by rw [List.length_append]; omega), List.getElem?_append_left (by rw [List.length_append]; omega), List.length_append, Nat.add_sub_cancel_left]
      exact hy
    have hw : IntKind.wrap .i64 (((mid + (P.length + A.length) - 1 : Nat) : Int) - (k : Int)) = ((P.length + A.length + (mid - 1 - k) : Nat) : Int) := sub_i (by omega) (by omega)
    have bb : 0 ≤ ((P.length + A.length + (mid - 1 - k) : Nat) : Int) ∧ ((P.length + A.length + (mid - 1 - k) : Nat) : Int) < (N : Int) := ⟨by omega, by omega⟩
    rw [← hw] at hyr bb
    refine ⟨bb, ?_⟩
    conv => whnf
    refine ⟨rowK y, hyr, rfl, ?_⟩
    conv => whnf
    refine ⟨⟨by omega, by omega⟩, ?_⟩
    conv => whnf
    refine ⟨rowK x, hxr, rfl, ?_⟩
    conv => whnf
    refine .scal [latV y.1 y.2.1 y.2.2, latV x.1 x.2.1 x.2.2] _ ⟨.refl _, rfl, hf y x⟩ ?_
    conv => whnf
    refine bcase_intro (fun h6 => ?_) (fun h6 => ?_) <;> conv => whnf
    · have h6 : ¬ c y x < 0 := by simpa using h6
      rw [succ_i (i := k) (Nat.lt_succ_self _) (by omega)]
      refine ⟨_, ?_, k + 1, r, by omega, by omega, by omega, h4, h5, .inr (.inr ⟨by omega, fun x' y' hx' hy' => ?_⟩), hhi, rfl, rfl, rfl⟩
      · omega
      · rw [Nat.add_sub_cancel, hx] at hx'
        rw [show mid - (k + 1) = mid - 1 - k by omega, hy] at hy'
        cases hx'
        cases hy'
        exact h6
    · have h6 : c y x < 0 := by simpa using h6
      refine ⟨_, ?_, st, k, h1, h2, by omega, by omega, by omega, hlo, .inr (.inr fun x' y' hx' hy' => ?_), rfl, rfl, rfl⟩
      · omega
      · rw [hx] at hx'
        rw [hy] at hy'
        cases hx'
        cases hy'
        exact h6
  have hge := ge_of h
  have hrs : r = st := by omega
  subst hrs
  have le12 : ∀ x ∈ A.take (r - P.length), ∀ y ∈ B.drop (mid - r), ¬ c y x < 0 := by
    intro x hx y hy
    obtain ⟨i, hi, hx⟩ := mem_take hx
    obtain ⟨j, hj, hy⟩ := mem_drop hy
    have hjl := (List.getElem?_eq_some_iff.1 hy).1
    rcases hlo with e | e | ⟨e, hp⟩
    · omega
    · omega
    · obtain ⟨x2, hx2, _⟩ := at_i (show r - 1 - P.length < A.length by omega)
      obtain ⟨y2, hy2, _⟩ := at_i (show mid - r < B.length by omega)
      exact O.tr _ _ _ (srt_get O hA (show i ≤ r - 1 - P.length by omega) hx hx2) (O.tr _ _ _ (hp x2 y2 hx2 hy2) (srt_get O hB hj hy2 hy))
  have lt21 : ∀ x ∈ A.drop (r - P.length), ∀ y ∈ B.take (mid - r), c y x < 0 := by
    intro x hx y hy
    obtain ⟨i, hi, hx⟩ := mem_drop hx
    obtain ⟨j, hj, hy⟩ := mem_take hy
    have hil := (List.getElem?_eq_some_iff.1 hx).1
    rcases hhi with e | e | hp
    · omega
    · omega
    · obtain ⟨x2, hx2, _⟩ := at_i (show r - P.length < A.length by omega)
      obtain ⟨y2, hy2, _⟩ := at_i (show mid - 1 - r < B.length by omega)
      exact O.lt_le (O.le_lt (srt_get O hB (show j ≤ mid - 1 - r by omega) hy hy2) (hp x2 y2 hx2 hy2)) (srt_get O hA hi hx2 hx)
  have hlA : (A.take (r - P.length)).length = r - P.length := by rw [List.length_take]; omega
  have hlB : (B.take (mid - r)).length = mid - r := by rw [List.length_take]; omega
  generalize hA1 : A.take (r - P.length) = A1 at le12 hlA
  generalize hA2' : A.drop (r - P.length) = A2 at lt21
  generalize hB1 : B.take (mid - r) = B1 at lt21 hlB
  generalize hB2' : B.drop (mid - r) = B2 at le12
  have hAA : A = A1 ++ A2 := by rw [← hA1, ← hA2', List.take_append_drop]
  have hBB : B = B1 ++ B2 := by rw [← hB1, ← hB2', List.take_append_drop]
  clear hA1 hA2' hB1 hB2' hlo hhi
  have er : r = P.length + A1.length := by omega
  have em : mid = P.length + A1.length + B1.length := by omega
  subst er
  subst em
  subst hAA
  subst hBB
  rw [List.length_append] at hN hn hA2 hmid h4 hB2 h2
  simp only [List.length_append] at hN hn hmid hB2 h2
  rw [sub_i (a := P.length + A1.length + B1.length + (P.length + (A1 ++ A2).length)) (b := P.length + A1.length) (c := P.length + A1.length + A2.length + B1.length) (by rw [List.length_append]; omega) (by rw [List.length_append]; omega), List.length_append, List.length_append]
  rw [← Nat.add_assoc P.length A1.length A2.length, show P ++ (A1 ++ A2) ++ (B1 ++ B2) ++ Q = P ++ A1 ++ A2 ++ B1 ++ (B2 ++ Q) by simp]
  refine bcase_intro (fun hg => ?_) (fun hg => ?_) <;> conv => whnf
  rotate_left
  have e : P ++ A1 ++ A2 ++ B1 ++ (B2 ++ Q) = P ++ A1 ++ B1 ++ A2 ++ (B2 ++ Q) := by
    rcases bif_ge hg with g | g
    · rw [show A2 = [] from List.eq_nil_of_length_eq_zero (by omega)]; simp
    · rw [show B1 = [] from List.eq_nil_of_length_eq_zero (by omega)]; simp
  rw [e]
  clear e
  rotate_left
  have hro := rotate f (P ++ A1) A2 B1 (B2 ++ Q) (by have := bif_lt hg; omega) (by have := bif_lt hg; omega) N (by simp only [List.length_append]; omega) hl cap
  rw [show (P ++ A1).length = P.length + A1.length from List.length_append] at hro
  refine .obj rfl ?_
  conv => whnf
  refine ⟨_, _, ⟨WkL.refl _, hro⟩, fun res s1 hs => ?_⟩
  obtain ⟨rfl, rfl⟩ := hs
  clear hro
  conv => whnf
  all_goals
    clear hg
    refine bcase_intro (fun hg => ?_) (fun hg => ?_) <;> conv => whnf
    rotate_left
    obtain ⟨o1, ho1⟩ : ∃ o1, A1 ++ B1 = o1 := ⟨_, rfl⟩
    have hs1 : Srt c o1 := by
      rw [← ho1]
      rcases bif_ge hg with g | g
      · rw [show A1 = [] from List.eq_nil_of_length_eq_zero (by omega)]; exact hB.left
      · rw [show B1 = [] from List.eq_nil_of_length_eq_zero (by omega), List.append_nil]; exact hA.left
    have hb1 : Stb c (A1 ++ B1) o1 := by rw [ho1]; exact Stb.refl _ _
    rw [show P ++ A1 ++ B1 ++ A2 ++ (B2 ++ Q) = P ++ o1 ++ (A2 ++ (B2 ++ Q)) by rw [← ho1]; simp]
    clear ho1
    rotate_left
    have hi1 := ih P A1 B1 (A2 ++ (B2 ++ Q)) (by have := bif_lt hg; omega) (by have := bif_lt hg; omega) (by have := bif_lt hg; omega) hA.left hB.left N (by simp only [List.length_append]; omega) hl cap
    rw [show P ++ A1 ++ B1 ++ (A2 ++ (B2 ++ Q)) = P ++ A1 ++ B1 ++ A2 ++ (B2 ++ Q) by simp] at hi1
    refine .obj rfl ?_
    conv => whnf
    refine ⟨_, _, ⟨WkL.refl _, hi1⟩, fun res s1 hs => ?_⟩
    obtain ⟨o1, rfl, hs1, hb1, rfl⟩ := hs
    clear hi1
    conv => whnf
    all_goals
      clear hg
      have hl1 := hb1.len O
      rw [List.length_append] at hl1
      refine bcase_intro (fun hg => ?_) (fun hg => ?_) <;> conv => whnf
      · obtain ⟨g3, g4⟩ := bif_lt hg
        have hi2 := ih (P ++ o1) A2 B2 Q (by omega) (by omega) (by omega) hA.right hB.right N (by simp only [List.length_append]; omega) hl cap
        rw [List.length_append, hl1, show P.length + (A1.length + B1.length) = P.length + A1.length + B1.length by omega, show P.length + A1.length + B1.length + A2.length = P.length + A1.length + A2.length + B1.length by omega, show P.length + A1.length + A2.length + B1.length + B2.length = P.length + A1.length + A2.length + (B1.length + B2.length) by omega,
          show P ++ o1 ++ A2 ++ B2 ++ Q = P ++ o1 ++ (A2 ++ (B2 ++ Q)) by simp] at hi2
        refine .obj rfl ?_
        conv => whnf
        refine ⟨_, _, ⟨WkL.refl _, hi2⟩, fun res s1 hs => ?_⟩
        obtain ⟨o2, rfl, hs2, hb2, rfl⟩ := hs
        conv => whnf
        have hm := merge_parts O hA hB le12 lt21 hs1 hs2 hb1 hb2
        exact ⟨o1 ++ o2, rfl, hm.1, hm.2, by simp⟩
      · have hs2 : Srt c (A2 ++ B2) := by
          rcases bif_ge hg with g | g
          · rw [show A2 = [] from List.eq_nil_of_length_eq_zero (by omega)]; exact hB.right
          · rw [show B2 = [] from List.eq_nil_of_length_eq_zero (by omega), List.append_nil]; exact hA.right
        have hm := merge_parts O hA hB le12 lt21 hs1 hs2 hb1 (Stb.refl _ _)
        exact ⟨o1 ++ (A2 ++ B2), rfl, hm.1, hm.2, by simp⟩
set_option maxHeartbeats 4000000 in
set_option maxRecDepth 100000 in
theorem symBig (f : Nat) (c : Kt → Kt → Int) (O : Ordr c) (hf : ∀ x y : Kt, Contract Try.prog G0 f [latV x.1 x.2.1 x.2.2, latV y.1 y.2.1 y.2.2] [] (fun r t => r = .d (.int .i64 (c x y)) ∧ t = []))
    (n : Nat) (ih : ∀ (P A B Q : List Kt), A.length + B.length ≤ n → 1 ≤ A.length → 1 ≤ B.length → Srt c A → Srt c B → ∀ N, P.length + A.length + B.length + Q.length = N → N ≤ 100000 → ∀ cap,
      Contract Try.prog G0 143 [.slc (.g 0) 3 0 N cap, .d (.int .i64 (P.length : Int)), .d (.int .i64 ((P.length + A.length : Nat) : Int)), .d (.int .i64 ((P.length + A.length + B.length : Nat) : Int)), .fn f []] [(0, .row 3 (rowsK (P ++ A ++ B ++ Q)))]
        (fun r t => ∃ o, r = .tup [] ∧ Srt c o ∧ Stb c (A ++ B) o ∧ t = [(0, .row 3 (rowsK (P ++ o ++ Q)))]))
    (P A B Q : List Kt) (hn : A.length + B.length ≤ n + 1) (hA2 : 2 ≤ A.length) (hB2 : 2 ≤ B.length) (hA : Srt c A) (hB : Srt c B) (N : Nat) (hN : P.length + A.length + B.length + Q.length = N) (hl : N ≤ 100000) (cap : Nat) :
    Contract Try.prog G0 143 [.slc (.g 0) 3 0 N cap, .d (.int .i64 (P.length : Int)), .d (.int .i64 ((P.length + A.length : Nat) : Int)), .d (.int .i64 ((P.length + A.length + B.length : Nat) : Int)), .fn f []] [(0, .row 3 (rowsK (P ++ A ++ B ++ Q)))]
      (fun r t => ∃ o, r = .tup [] ∧ Srt c o ∧ Stb c (A ++ B) o ∧ t = [(0, .row 3 (rowsK (P ++ o ++ Q)))]) := by
  refine run143 1 [] rfl rfl ?_
  conv => whnf
  rw [sub_i (a := P.length + A.length) (b := P.length) (c := A.length) rfl (by omega), not_one hA2]
  conv => whnf
  rw [sub_i (a := P.length + A.length + B.length) (b := P.length + A.length) (c := B.length) rfl (by omega), not_one hB2]
  conv => whnf
  rw [half_i (a := P.length) (b := P.length + A.length + B.length) (by omega)]
  obtain ⟨mid, hmid⟩ : ∃ mid, (P.length + (P.length + A.length + B.length)) / 2 = mid := ⟨_, rfl⟩
  rw [hmid, sum_i (a := mid) (b := P.length + A.length) (by omega)]
  refine bcase_intro (fun h => ?_) (fun h => ?_) <;> conv => whnf
  · have hgt : mid < P.length + A.length := by have := of_decide_eq_true h; omega
    rw [sub_i (a := mid + (P.length + A.length)) (b := P.length + A.length + B.length) (c := mid - B.length) (by omega) (by omega), dec_i (a := mid + (P.length + A.length)) (c := mid + (P.length + A.length) - 1) (by omega) (by omega)]
    exact symTail f c O hf n ih P A B Q hn hA2 hB2 hA hB N hN hl cap mid hmid (mid - B.length) mid _ (.inr (by omega)) (.inr rfl) (by omega) (by omega) (by omega) (by omega) (by omega)
  · have hle : P.length + A.length ≤ mid := by have := of_decide_eq_false h; omega
    rw [dec_i (a := mid + (P.length + A.length)) (c := mid + (P.length + A.length) - 1) (by omega) (by omega)]
    exact symTail f c O hf n ih P A B Q hn hA2 hB2 hA hB N hN hl cap mid hmid P.length (P.length + A.length) _ (.inl rfl) (.inl rfl) (by omega) (by omega) (by omega) (by omega) (by omega)
end Go.Proofs.Ytkenimmellonjaa
/- Seat r2: two ranges in order made one. -/
namespace Go.Proofs.Ytkenimmellonjaa
open Go.Pv Go.RowKit Go.Shelf
theorem symMerge (f : Nat) (c : Kt → Kt → Int) (O : Ordr c) (hf : ∀ x y : Kt, Contract Try.prog G0 f [latV x.1 x.2.1 x.2.2, latV y.1 y.2.1 y.2.2] [] (fun r t => r = .d (.int .i64 (c x y)) ∧ t = [])) :
    ∀ (n : Nat) (P A B Q : List Kt), A.length + B.length ≤ n → 1 ≤ A.length → 1 ≤ B.length → Srt c A → Srt c B → ∀ N, P.length + A.length + B.length + Q.length = N → N ≤ 100000 → ∀ cap,
      Contract Try.prog G0 143 [.slc (.g 0) 3 0 N cap, .d (.int .i64 (P.length : Int)), .d (.int .i64 ((P.length + A.length : Nat) : Int)), .d (.int .i64 ((P.length + A.length + B.length : Nat) : Int)), .fn f []] [(0, .row 3 (rowsK (P ++ A ++ B ++ Q)))]
        (fun r t => ∃ o, r = .tup [] ∧ Srt c o ∧ Stb c (A ++ B) o ∧ t = [(0, .row 3 (rowsK (P ++ o ++ Q)))])
  | 0, _, _, _, _, h, h1, _, _, _, _, _, _, _ => absurd h (by omega)
  | n + 1, P, A, B, Q, hn, h1, h2, hA, hB, N, hN, hl, cap => by
    match A, B, h1, h2 with
    | [x], B, _, _ =>
      have := symOne f c O hf P x B Q hB N hN hl cap
      rw [show P ++ [x] ++ B ++ Q = P ++ x :: B ++ Q by simp]
      exact this
    | x :: x' :: A, [y], _, _ =>
      have := symTwo f c O hf P (x :: x' :: A) y Q (by simp) hA N hN hl cap
      rw [show P ++ x :: x' :: A ++ [y] ++ Q = P ++ x :: x' :: A ++ y :: Q by simp]
      exact this
    | x :: x' :: A, y :: y' :: B, _, _ =>
      exact symBig f c O hf n (symMerge f c O hf n) P _ _ Q hn (by simp) (by simp) hA hB N hN hl cap
end Go.Proofs.Ytkenimmellonjaa
/- Seat r2: latches put in order, stable. -/
namespace Go.Proofs.Ytkenimmellonjaa
open Go.Pv Go.RowKit Go.Shelf
theorem dbl_i {a : Nat} (h : 2 * a ≤ 4611686018427387904) : IntKind.wrap .i64 ((2 : Int) * (a : Int)) = ((2 * a : Nat) : Int) := by
  rw [show (2 : Int) * (a : Int) = ((2 * a : Nat) : Int) by omega]
  exact wrap_id (by omega) (by omega)
theorem dbl_i2 {a : Nat} (h : 2 * a ≤ 4611686018427387904) : IntKind.wrap .i64 ((a : Int) * 2) = ((2 * a : Nat) : Int) := by
  rw [show (a : Int) * 2 = ((2 * a : Nat) : Int) by omega]
  exact wrap_id (by omega) (by omega)
theorem le_of {i n : Nat} (h : decide ((i : Int) ≤ (n : Int)) = true) : i ≤ n := by simpa using h
theorem gt_of {i n : Nat} (h : decide ((i : Int) ≤ (n : Int)) = false) : n < i := by simpa using h
/-- Blocks in order, each of so many. -/
def Blks (c : Kt → Kt → Int) (bs : Nat) (L : List (List Kt)) : Prop := ∀ b ∈ L, b.length = bs ∧ Srt c b
theorem Blks.snoc {c : Kt → Kt → Int} {bs : Nat} {L : List (List Kt)} (h : Blks c bs L) {b : List Kt} (hb : b.length = bs) (hs : Srt c b) : Blks c bs (L ++ [b]) := fun x hx => by
  rcases List.mem_append.1 hx with hx | hx
  · exact h x hx
  · rw [List.mem_singleton.1 hx]; exact ⟨hb, hs⟩
set_option maxHeartbeats 4000000 in
set_option maxRecDepth 100000 in
theorem stable (f : Nat) (c : Kt → Kt → Int) (O : Ordr c) (hf : ∀ x y : Kt, Contract Try.prog G0 f [latV x.1 x.2.1 x.2.2, latV y.1 y.2.1 y.2.2] [] (fun r t => r = .d (.int .i64 (c x y)) ∧ t = []))
    (l : List Kt) (N : Nat) (hN : l.length = N) (hl : N ≤ 10000) (cap : Nat) :
    Contract Try.prog G0 120 [.slc (.g 0) 3 0 N cap, .d (.int .i64 (N : Int)), .fn f []] [(0, .row 3 (rowsK l))] (fun r t => ∃ o, r = .tup [] ∧ Srt c o ∧ Stb c l o ∧ t = [(0, .row 3 (rowsK o))]) := by
  refine run120 1 [] rfl rfl ?_
  conv => whnf
  refine StopG.rounds wk120 [] [0, 1, 2, 6, 7, 8] (fun m env s => ∃ (Ds : List (List Kt)) (R : List Kt), Blks c 20 Ds ∧ Stb c l (Ds.flatten ++ R) ∧ Ds.flatten.length + R.length = N ∧ m = R.length ∧
    env = [(0, .slc (.g 0) 3 0 N cap), (1, .d (.int .i64 (N : Int))), (2, .fn f []), (6, .d (.int .i64 20)), (7, .d (.int .i64 (Ds.flatten.length : Int))), (8, .d (.int .i64 ((Ds.flatten.length + 20 : Nat) : Int)))] ∧ s = [(0, .row 3 (rowsK (Ds.flatten ++ R)))]) rfl ?_ ?_
  · conv => whnf
    refine ⟨_, [], l, (fun b hb => by cases hb), Stb.refl _ _, by simpa using hN, rfl, rfl, rfl⟩
  rintro m env s ⟨Ds, R, hD, hst, hlen, rfl, rfl, rfl⟩
  conv => whnf
  refine bcase_intro (fun h => ?_) (fun h => ?_) <;> conv => whnf
  · have hle := le_of h
    have hA : (R.take 20).length = 20 := by rw [List.length_take]; omega
    have hQ : (R.drop 20).length = R.length - 20 := List.length_drop ..
    have his := insSort f c hf Ds.flatten (R.take 20) (R.drop 20) (by rw [hA, hQ]; omega) cap
    rw [hA, hQ, show Ds.flatten.length + 20 + (R.length - 20) = N by omega, List.append_assoc Ds.flatten, List.take_append_drop] at his
    refine .obj rfl ?_
    conv => whnf
    refine ⟨_, _, ⟨WkL.refl _, his⟩, fun res s1 hs => ?_⟩
    obtain ⟨rfl, rfl⟩ := hs
    conv => whnf
    rw [show IntKind.wrap .i64 (((Ds.flatten.length + 20 : Nat) : Int) + 20) = ((Ds.flatten.length + 20 + 20 : Nat) : Int) from sum_i (a := Ds.flatten.length + 20) (b := 20) (by omega)]
    have hsl : (sortK c (R.take 20)).length = 20 := by rw [sortK_len]; exact hA
    have hfl : (Ds ++ [sortK c (R.take 20)]).flatten.length = Ds.flatten.length + 20 := by rw [List.flatten_append, List.length_append]; simp [hsl]
    refine ⟨_, ?_, Ds ++ [sortK c (R.take 20)], R.drop 20, hD.snoc hsl (sortK_srt O _), ?_, ?_, rfl, ?_, ?_⟩
    · rw [hQ]; omega
    · have e : Stb c (Ds.flatten ++ (R.take 20 ++ R.drop 20)) (Ds.flatten ++ (sortK c (R.take 20) ++ R.drop 20)) := Stb.app (Stb.refl _ _) (Stb.app (sortK_stb O _) (Stb.refl _ _))
      rw [List.take_append_drop] at e
      have := hst.trans e
      simpa using this
    · rw [hfl, hQ]; omega
    · rw [hfl]
    · simp
  have hgt := gt_of h
  have his := insSort f c hf Ds.flatten R [] (by rw [List.length_nil]; omega) cap
  rw [List.length_nil, Nat.add_zero (_ + _), hlen, List.append_nil, List.append_nil] at his
  refine .obj rfl ?_
  conv => whnf
  refine ⟨_, _, ⟨WkL.refl _, his⟩, fun res s1 hs => ?_⟩
  obtain ⟨rfl, rfl⟩ := hs
  conv => whnf
  refine StopG.rounds wk120 [] [0, 1, 2, 6] (fun m env s => ∃ (bs : Nat) (Fs : List (List Kt)) (r : List Kt), 20 ≤ bs ∧ bs ≤ 2 * N + 20 ∧ Blks c bs Fs ∧ r.length < bs ∧ Srt c r ∧ Stb c l (Fs.flatten ++ r) ∧ Fs.flatten.length + r.length = N ∧ m = N - bs ∧
    env = [(0, .slc (.g 0) 3 0 N cap), (1, .d (.int .i64 (N : Int))), (2, .fn f []), (6, .d (.int .i64 (bs : Int)))] ∧ s = [(0, .row 3 (rowsK (Fs.flatten ++ r)))]) rfl ?_ ?_
  · conv => whnf
    refine ⟨_, 20, Ds, sortK c R, Nat.le_refl _, by omega, hD, by rw [sortK_len]; omega, sortK_srt O _, hst.trans (Stb.app (Stb.refl _ _) (sortK_stb O _)), by rw [sortK_len]; exact hlen, rfl, rfl, rfl⟩
  clear hD hst hlen hgt his Ds R h
  rintro m env s ⟨bs, Fs, r, hb20, hbN, hF, hr, hrs, hst, hlen, rfl, rfl, rfl⟩
  conv => whnf
  refine bcase_intro (fun h => ?_) (fun h => ?_) <;> conv => whnf
  · have hbl := lt_of h
    rw [dbl_i (by omega)]
    refine StopG.rounds wk120 [] [0, 1, 2, 6, 7, 8] (fun m env s => ∃ (Ds Fs : List (List Kt)), Blks c (2 * bs) Ds ∧ Blks c bs Fs ∧ Stb c l (Ds.flatten ++ (Fs.flatten ++ r)) ∧ Ds.flatten.length + (Fs.flatten.length + r.length) = N ∧ m = Fs.length ∧
      env = [(0, .slc (.g 0) 3 0 N cap), (1, .d (.int .i64 (N : Int))), (2, .fn f []), (6, .d (.int .i64 (bs : Int))), (7, .d (.int .i64 (Ds.flatten.length : Int))), (8, .d (.int .i64 ((Ds.flatten.length + 2 * bs : Nat) : Int)))] ∧ s = [(0, .row 3 (rowsK (Ds.flatten ++ (Fs.flatten ++ r))))]) rfl ?_ ?_
    · conv => whnf
      refine ⟨_, [], Fs, (fun b hb => by cases hb), hF, hst, by rw [← hlen]; simp, rfl, ?_, rfl⟩
      simp
    clear hF hst hlen Fs
    rintro m env s ⟨Ds, Fs, hD, hF, hst, hlen, rfl, rfl, rfl⟩
    conv => whnf
    refine bcase_intro (fun h => ?_) (fun h => ?_) <;> conv => whnf
    · have hle := le_of h
      match Fs, hF, hst, hlen with
      | [], _, _, hlen => exact absurd hlen (by rw [List.flatten_nil, List.length_nil]; omega)
      | [b1], hF, _, hlen => exact absurd hlen (by have := (hF b1 (List.mem_cons_self ..)).1; rw [List.flatten_cons, List.flatten_nil, List.append_nil]; omega)
      | b1 :: b2 :: Fs, hF, hst, hlen =>
      obtain ⟨h1, s1⟩ := hF b1 (List.mem_cons_self ..)
      obtain ⟨h2, s2⟩ := hF b2 (List.mem_cons_of_mem _ (List.mem_cons_self ..))
      have hF' : Blks c bs Fs := fun b hb => hF b (List.mem_cons_of_mem _ (List.mem_cons_of_mem _ hb))
      have efl : (b1 :: b2 :: Fs).flatten = b1 ++ (b2 ++ Fs.flatten) := by simp
      rw [efl] at hst hlen ⊢
      simp only [List.length_append] at hlen
      have hsm := symMerge f c O hf (b1.length + b2.length) Ds.flatten b1 b2 (Fs.flatten ++ r) (Nat.le_refl _) (by omega) (by omega) s1 s2 N (by rw [List.length_append]; omega) (by omega) cap
      rw [show Ds.flatten ++ b1 ++ b2 ++ (Fs.flatten ++ r) = Ds.flatten ++ (b1 ++ (b2 ++ Fs.flatten) ++ r) by simp, h1, h2, show Ds.flatten.length + bs + bs = Ds.flatten.length + 2 * bs by omega] at hsm
      rw [sum_i (a := Ds.flatten.length) (b := bs) (by omega)]
      refine .obj rfl ?_
      conv => whnf
      refine ⟨_, _, ⟨WkL.refl _, hsm⟩, fun res sx hs => ?_⟩
      obtain ⟨o, rfl, ho, hob, rfl⟩ := hs
      have hol := hob.len O
      rw [List.length_append] at hol
      conv => whnf
      rw [dbl_i (by omega), sum_i (a := Ds.flatten.length + 2 * bs) (b := 2 * bs) (by omega)]
      have hfl : (Ds ++ [o]).flatten.length = Ds.flatten.length + 2 * bs := by rw [List.flatten_append, List.length_append]; simp; omega
      refine ⟨_, ?_, Ds ++ [o], Fs, hD.snoc (by omega) ho, hF', ?_, ?_, rfl, ?_, ?_⟩
      · simp only [List.length_cons]; omega
      · have e : Stb c (Ds.flatten ++ ((b1 ++ b2) ++ (Fs.flatten ++ r))) (Ds.flatten ++ (o ++ (Fs.flatten ++ r))) := Stb.app (Stb.refl _ _) (Stb.app hob (Stb.refl _ _))
        have h0 : Ds.flatten ++ (b1 ++ (b2 ++ Fs.flatten) ++ r) = Ds.flatten ++ ((b1 ++ b2) ++ (Fs.flatten ++ r)) := by simp
        rw [h0] at hst
        have := hst.trans e
        simpa using this
      · rw [hfl]; omega
      · rw [hfl]
      · simp
    have hgt := gt_of h
    rw [sum_i (a := Ds.flatten.length) (b := bs) (by omega)]
    match Fs, hF, hst, hlen with
    | b1 :: b2 :: Fs, hF, _, hlen =>
      have h1 := (hF b1 (List.mem_cons_self ..)).1
      have h2 := (hF b2 (List.mem_cons_of_mem _ (List.mem_cons_self ..))).1
      exact absurd hlen (by simp only [List.flatten_cons, List.length_append]; omega)
    | [], _, hst, hlen =>
      rw [List.flatten_nil, List.length_nil, Nat.zero_add] at hlen
      rw [List.flatten_nil, List.nil_append] at hst ⊢
      refine bcase_intro (fun h => ?_) (fun h => ?_)
      · exact absurd (lt_of h) (by omega)
      conv => whnf
      rw [dbl_i2 (by omega)]
      exact ⟨_, by omega, 2 * bs, Ds, r, by omega, by omega, hD, by omega, hrs, hst, hlen, rfl, rfl, rfl⟩
    | [b1], hF, hst, hlen =>
      obtain ⟨h1, s1⟩ := hF b1 (List.mem_cons_self ..)
      rw [show [b1].flatten = b1 by simp] at hst hlen ⊢
      refine bcase_intro (fun h => ?_) (fun h => ?_) <;> conv => whnf
      · have hlt := lt_of h
        have hsm := symMerge f c O hf (b1.length + r.length) Ds.flatten b1 r [] (Nat.le_refl _) (by omega) (by omega) s1 hrs N (by rw [List.length_nil]; omega) (by omega) cap
        rw [List.append_nil, List.append_assoc, h1, show Ds.flatten.length + bs + r.length = N by omega] at hsm
        refine .obj rfl ?_
        conv => whnf
        refine ⟨_, _, ⟨WkL.refl _, hsm⟩, fun res sx hs => ?_⟩
        obtain ⟨o, rfl, ho, hob, rfl⟩ := hs
        have hol := hob.len O
        rw [List.length_append] at hol
        conv => whnf
        rw [dbl_i2 (by omega)]
        exact ⟨_, by omega, 2 * bs, Ds, o, by omega, by omega, hD, by omega, ho, hst.trans (Stb.app (Stb.refl _ _) hob), by omega, rfl, rfl, by rw [List.append_nil]⟩
      · have hge := ge_of h
        have hr0 : r = [] := List.eq_nil_of_length_eq_zero (by omega)
        subst hr0
        rw [List.append_nil] at hst ⊢
        rw [dbl_i2 (by omega)]
        exact ⟨_, by omega, 2 * bs, Ds, b1, by omega, by omega, hD, by omega, s1, hst, by simpa using hlen, rfl, rfl, rfl⟩
  · have hbl := ge_of h
    match Fs, hF, hst, hlen with
    | [], _, hst, _ => exact ⟨r, rfl, hrs, hst, rfl⟩
    | b1 :: Fs, hF, hst, hlen =>
      obtain ⟨h1, s1⟩ := hF b1 (List.mem_cons_self ..)
      simp only [List.flatten_cons, List.length_append] at hlen
      have hr0 : r = [] := List.eq_nil_of_length_eq_zero (by omega)
      have hF0 : Fs.flatten = [] := List.eq_nil_of_length_eq_zero (by omega)
      rw [List.flatten_cons, hF0, hr0, List.append_nil, List.append_nil] at hst ⊢
      exact ⟨b1, rfl, s1, hst, rfl⟩
end Go.Proofs.Ytkenimmellonjaa
/- Seat r2: calls held against each other. -/
namespace Go.Proofs.Ytkenimmellonjaa
open Go.Pv Go.RowKit Go.Shelf
set_option maxRecDepth 100000 in
theorem isNaN (x : Int) : Contract Try.prog G0 121 [.d (.int .i64 x)] [] (fun r t => r = .d (.bool false) ∧ t = []) := by
  refine run121 0 [] rfl rfl ?_
  conv => whnf
  exact ⟨rd_bool (by simp), rfl⟩
def cmpI (a b : Int) : Int := bif decide (a < b) then -1 else bif decide (a > b) then 1 else 0
set_option maxRecDepth 100000 in
theorem compareI (a b : Int) : Contract Try.prog G0 95 [.d (.int .i64 a), .d (.int .i64 b)] [] (fun r t => r = .d (.int .i64 (cmpI a b)) ∧ t = []) := by
  refine run95 0 [] rfl rfl ?_
  conv => whnf
  refine .scal [.d (.int .i64 a)] _ ⟨.refl _, rfl, isNaN a⟩ ?_
  conv => whnf
  refine .scal [.d (.int .i64 b)] _ ⟨.refl _, rfl, isNaN b⟩ ?_
  conv => whnf
  refine bcase_intro (fun h => ?_) (fun h => ?_) <;> conv => whnf
  · exact ⟨rd_int (by rw [cmpI, h]; rfl), rfl⟩
  refine bcase_intro (fun h2 => ?_) (fun h2 => ?_) <;> conv => whnf
  · exact ⟨rd_int (by rw [cmpI, h, h2]; rfl), rfl⟩
  · exact ⟨rd_int (by rw [cmpI, h, h2]; rfl), rfl⟩
def orI : List Int → Int
  | [] => 0
  | x :: r => bif x != 0 then x else orI r
set_option maxRecDepth 100000 in
theorem orC (l : List Int) (hl : l.length ≤ 1000) : Contract Try.prog G0 94 [.d (.list 1 (rowsI l))] [] (fun r t => r = .d (.int .i64 (orI l)) ∧ t = []) := by
  have hlen := rowsI_len l
  refine run94 0 [] rfl rfl ?_
  conv => whnf
  refine StopG.rounds wk94 [] [3, 6, 7, 8] (fun m env s => ∃ i : Nat, i ≤ l.length ∧ m = l.length - i ∧ orI l = orI (l.drop i) ∧
    env = [(3, .d (.int .i64 0)), (6, .d (.list 1 (rowsI l))), (7, .d (.int .i64 ((rowsI l).length : Int))), (8, .d (.int .i64 (i : Int)))] ∧ s = []) rfl ?_ ?_
  · conv => whnf
    exact ⟨_, 0, Nat.zero_le _, rfl, rfl, rfl, rfl⟩
  rintro m env s ⟨i, hi, rfl, ho, rfl, rfl⟩
  conv => whnf
  refine bcase_intro (fun h => ?_) (fun h => ?_) <;> conv => whnf
  · have h := lt_of h
    rw [hlen] at h
    obtain ⟨x, hx, hdrop⟩ := at_i h
    refine ⟨rowI x, ⟨by omega, row_i hx⟩, ?_⟩
    conv => whnf
    rw [hdrop, orI] at ho
    refine bcase_intro (fun h2 => ?_) (fun h2 => ?_) <;> conv => whnf
    · rw [h2] at ho
      exact ⟨rd_int ho.symm, rfl⟩
    · rw [h2] at ho
      rw [succ_i h (by omega)]
      exact ⟨_, by omega, i + 1, h, rfl, ho, rfl, rfl⟩
  · have h := ge_of h
    rw [hlen] at h
    rw [show l.drop i = [] from List.drop_of_length_le h] at ho
    exact ⟨rd_int ho.symm, rfl⟩
/-- By floors, then by directions. -/
def cK (x y : Kt) : Int := orI [cmpI x.1 y.1, cmpI x.2.1 y.2.1]
set_option maxRecDepth 100000 in
theorem cmp76 (a b a' b' : Int) : Contract Try.prog G0 76 [calV a b, calV a' b'] [] (fun r t => r = .d (.int .i64 (orI [cmpI a a', cmpI b b'])) ∧ t = []) := by
  refine run76 0 [] rfl rfl ?_
  conv => whnf
  refine .scal [.d (.int .i64 a), .d (.int .i64 a')] _ ⟨.refl _, rfl, compareI a a'⟩ ?_
  conv => whnf
  refine .scal [.d (.int .i64 b), .d (.int .i64 b')] _ ⟨.refl _, rfl, compareI b b'⟩ ?_
  conv => whnf
  refine .scal [.d (.list 1 (rowsI [cmpI a a', cmpI b b']))] _ ⟨.refl _, rfl, orC _ (by simp)⟩ ?_
  conv => whnf
  exact ⟨rfl, rfl⟩
set_option maxRecDepth 100000 in
theorem less28 (a b a' b' : Int) : Contract Try.prog G0 28 [calV a b, calV a' b'] [] (fun r t => r = .d (.bool (decide (orI [cmpI a a', cmpI b b'] < 0))) ∧ t = []) := by
  refine run28 0 [] rfl rfl ?_
  conv => whnf
  refine .scal [calV a b, calV a' b'] _ ⟨.refl _, rfl, cmp76 a b a' b'⟩ ?_
  conv => whnf
  exact ⟨rfl, rfl⟩
set_option maxRecDepth 100000 in
theorem add93 (x y : Kt) : Contract Try.prog G0 93 [latV x.1 x.2.1 x.2.2, latV y.1 y.2.1 y.2.2] [] (fun r t => r = .d (.int .i64 (cK x y)) ∧ t = []) := by
  refine run93 0 [] rfl rfl ?_
  conv => whnf
  refine .scal [.d (.int .i64 x.1), .d (.int .i64 y.1)] _ ⟨.refl _, rfl, compareI x.1 y.1⟩ ?_
  conv => whnf
  refine .scal [.d (.int .i64 x.2.1), .d (.int .i64 y.2.1)] _ ⟨.refl _, rfl, compareI x.2.1 y.2.1⟩ ?_
  conv => whnf
  refine .scal [.d (.list 1 (rowsI [cmpI x.1 y.1, cmpI x.2.1 y.2.1]))] _ ⟨.refl _, rfl, orC _ (by simp)⟩ ?_
  conv => whnf
  exact ⟨rfl, rfl⟩
theorem cmp_neg (a b a' b' : Int) : orI [cmpI a a', cmpI b b'] < 0 ↔ a < a' ∨ (a = a' ∧ b < b') := by
  unfold cmpI
  by_cases h1 : a < a'
  · simp [orI, h1]
  · by_cases h2 : a > a'
    · simp only [show decide (a < a') = false from decide_eq_false h1, show decide (a > a') = true from decide_eq_true h2]
      simp [orI]
      omega
    · have h3 : a = a' := by omega
      by_cases h4 : b < b'
      · simp [orI, h3, h4]
      · by_cases h5 : b > b'
        · simp only [show decide (b < b') = false from decide_eq_false h4, show decide (b > b') = true from decide_eq_true h5]
          simp [orI, h3]
          omega
        · simp [orI, h3, h4, show ¬ (b' < b) from h5]
theorem cK_ord : Ordr cK := by
  refine ⟨fun x y h => ?_, fun x y z h1 h2 => ?_⟩
  · unfold cK at *
    rw [cmp_neg] at *
    omega
  · unfold cK at *
    rw [cmp_neg] at *
    omega
theorem less_k (k : Kt) (e : En) : decide (orI [cmpI k.1 e.fl, cmpI k.2.1 e.dr] < 0) = lessK k e := by
  cases h : lessK k e with
  | true => exact decide_eq_true ((cmp_neg ..).2 ((lessK_iff k e).1 h))
  | false => exact decide_eq_false fun hc => by rw [(lessK_iff k e).2 ((cmp_neg ..).1 hc)] at h; cases h
set_option maxRecDepth 100000 in
theorem add97 (k : Kt) (e : En) : Contract Try.prog G0 97 [entV e, .d (.ptr (rowK k) 0)] [] (fun r s => r = .d (.bool (lessK k e)) ∧ s = []) := by
  refine run97 0 [] rfl rfl ?_
  conv => whnf
  refine .scal [calV k.1 k.2.1, calV e.fl e.dr] _ ⟨.refl _, rfl, less28 k.1 k.2.1 e.fl e.dr⟩ ?_
  conv => whnf
  exact ⟨rd_bool (less_k k e), rfl⟩
theorem clone91_nil : Contract Try.prog G0 91 [.d (.list 3 [])] [] (fun r t => (r = .d .nil ∨ r = .d .emp) ∧ t = []) := by
  refine run91 0 [] rfl rfl ?_
  conv => whnf
  refine ⟨?_, ?_⟩ <;> conv => whnf
  · exact ⟨.inl rfl, rfl⟩
  · refine ⟨⟨by decide, by decide⟩, ?_⟩
    conv => whnf
    exact ⟨.inr rfl, rfl⟩
theorem clone91_cons (r0 : List DV) (rs : List (List DV)) (hl : rs.length ≤ 100000) : Contract Try.prog G0 91 [.d (.list 3 (r0 :: rs))] [] (fun r t => ∃ c, rs.length + 1 ≤ c ∧ r = .slc (.g 0) 3 0 (rs.length + 1) c ∧ t = [(0, .row 3 (r0 :: rs))]) := by
  refine run91 0 [] rfl rfl ?_
  conv => whnf
  refine ⟨⟨?_, ?_⟩, ?_⟩
  · show (2 * (rs.length + 1) + 1024) * 24 ≤ 281474976710656; omega
  · show rs.length + 1 ≤ _; omega
  conv => whnf
  intro c hc
  conv => whnf
  exact ⟨c, hc, rfl, rfl⟩
set_option maxRecDepth 100000 in
theorem sort92 (l : List Kt) (N : Nat) (hN : l.length = N) (hl : N ≤ 10000) (cap : Nat) : Contract Try.prog G0 92 [.slc (.g 0) 3 0 N cap, .fn 93 []] [(0, .row 3 (rowsK l))] (fun r t => ∃ o, r = .tup [] ∧ Srt cK o ∧ Stb cK l o ∧ t = [(0, .row 3 (rowsK o))]) := by
  refine run92 1 [] rfl rfl ?_
  conv => whnf
  refine .obj rfl ?_
  conv => whnf
  refine ⟨_, _, ⟨WkL.refl _, stable 93 cK cK_ord add93 l N hN hl cap⟩, fun res s1 hs => ?_⟩
  obtain ⟨o, rfl, ho, hb, rfl⟩ := hs
  conv => whnf
  exact ⟨o, rfl, ho, hb, rfl⟩
end Go.Proofs.Ytkenimmellonjaa
/- Seat r2: as many as there is room for: the plain law. -/
namespace Go.Proofs.Ytkenimmellonjaa
open Go.Pv Go.RowKit Go.Shelf
def kN (g : Int) (i : Nat) : Kt := (((i / 2 % 64 : Nat) : Int), 2 * ((i % 2 : Nat) : Int) - 1, g)
def litN (g : Int) (n j : Nat) : List Kt := (List.range j).map fun t => kN g (n - 1 - t)
theorem litN_succ (g : Int) (n j : Nat) : litN g n (j + 1) = litN g n j ++ [kN g (n - 1 - j)] := by
  unfold litN
  rw [List.range_succ, List.map_append]
  rfl
theorem litN_len (g : Int) (n j : Nat) : (litN g n j).length = j := by simp [litN]
theorem nd_leK {α : Type} [DecidableEq α] : ∀ {a b : List α}, a.Nodup → (∀ x ∈ a, x ∈ b) → a.length ≤ b.length
  | [], _, _, _ => Nat.zero_le _
  | x :: r, b, hn, hs => by
    rw [List.nodup_cons] at hn
    have hx := hs x (List.mem_cons_self ..)
    have h1 : r.length ≤ (b.erase x).length := nd_leK hn.2 fun y hy => by
      have hyx : y ≠ x := fun h => hn.1 (h ▸ hy)
      exact (List.mem_erase_of_ne hyx).2 (hs y (List.mem_cons_of_mem _ hy))
    have h2 := List.length_erase_of_mem hx
    have h3 := List.length_pos_of_mem hx
    rw [List.length_cons]
    omega
theorem addE_grow (l : List En) (k : Kt) : l.length ≤ (addE l k).length := by
  unfold addE
  cases skipE l k with
  | true => exact Nat.le_refl _
  | false => show _ ≤ (insE k l).length; rw [insE_len]; exact Nat.le_succ _
theorem addL_grow : ∀ (ks : List Kt) (l : List En), l.length ≤ (addL l ks).length
  | [], _ => Nat.le_refl _
  | k :: r, l => Nat.le_trans (addE_grow l k) (addL_grow r (addE l k))
theorem addL_all : ∀ (ks : List Kt) {l : List En}, (addL l ks).length < 128 → ∀ k ∈ ks, ∃ e ∈ addL l ks, callE e = callK k
  | [], _, _, k, h => by cases h
  | k :: r, l, hl, x, hx => by
    rcases List.mem_cons.1 hx with rfl | hx
    · have h1 := addL_grow (x :: r) l
      obtain ⟨e, he, hc⟩ := addE_has (l := l) (k := x) (by omega)
      exact ⟨e, addL_old r he, hc⟩
    · exact addL_all r (l := addE l k) hl x hx
structure FullOK (g : Int) (n : Nat) (L : List En) : Prop where
  len : L.length = if (128 : Nat) < n then 128 else n
  srt : SrtE L
  anew : ∀ e ∈ L, e.aw = -1 ∧ e.bids = [] ∧ e.gn = g
  stay : stayL (litN g n n) L = L
  none : stayL [] L = []
  want : wantL [0] 0 L = L.map callE
  one : wantL [0] 1 L = []
theorem eqK_iff (y x : Kt) : eqK y x = true ↔ y = x := by
  obtain ⟨a, b, c⟩ := y
  obtain ⟨a', b', c'⟩ := x
  unfold eqK
  by_cases h1 : a = a'
  · by_cases h2 : b = b'
    · simp [h1, h2]
    · simp [h1, h2]
  · simp [h1]
theorem litE_iff (ks : List Kt) (e : En) : litE ks e = true ↔ keyE e ∈ ks := by
  unfold litE
  rw [List.any_eq_true]
  constructor
  · rintro ⟨x, hx, he⟩
    rw [(eqK_iff _ _).1 he]; exact hx
  · intro h
    exact ⟨_, h, (eqK_iff _ _).2 rfl⟩
theorem kN_mem (g : Int) {n i : Nat} (h : i < n) : kN g i ∈ litN g n n := by
  refine List.mem_map.2 ⟨n - 1 - i, List.mem_range.2 (by omega), ?_⟩
  rw [show n - 1 - (n - 1 - i) = i by omega]
theorem full_ok (g : Int) (n : Nat) : FullOK g n (addL [] (sortK cK (litN g n n))) := by
  have hst := sortK_stb cK_ord (litN g n n)
  have hmem : ∀ x, x ∈ sortK cK (litN g n n) ↔ x ∈ litN g n n := fun x => hst.mem cK_ord x
  have hlen : (sortK cK (litN g n n)).length = n := by rw [sortK_len, litN_len]
  generalize sortK cK (litN g n n) = ks at hmem hlen
  have hnew : ∀ e ∈ addL [] ks, ∃ k ∈ ks, e = newE k := fun e he => by
    rcases addL_mem ks he with h | h
    · cases h
    · exact h
  have hlit : ∀ e ∈ addL [] ks, keyE e ∈ litN g n n := fun e he => by
    obtain ⟨k, hk, rfl⟩ := hnew e he
    exact (hmem k).1 hk
  have h1 : (addL [] ks).length ≤ 128 := addL_le ks (Nat.zero_le _)
  have h2 : (addL [] ks).length ≤ n := by
    have := addL_len ks []
    rw [hlen, List.length_nil] at this
    omega
  have h3 : (if (128 : Nat) < n then 128 else n) ≤ (addL [] ks).length := by
    refine Nat.le_of_not_lt fun hlt => ?_
    have hM : (if (128 : Nat) < n then 128 else n) ≤ 128 ∧ (if (128 : Nat) < n then 128 else n) ≤ n := by split <;> omega
    generalize (if (128 : Nat) < n then 128 else n) = M at hlt hM
    have hall := addL_all ks (l := []) (by omega)
    have hnd : ((List.range M).map fun i => callK (kN g i)).Nodup := by
      unfold List.Nodup
      rw [List.pairwise_iff_getElem]
      intro i j hi hj hij e
      simp only [List.length_map, List.length_range] at hi hj
      simp only [List.getElem_map, List.getElem_range] at e
      have e1 : ((i / 2 % 64 : Nat) : Int) = ((j / 2 % 64 : Nat) : Int) := congrArg Prod.fst e
      have e2 : 2 * ((i % 2 : Nat) : Int) - 1 = 2 * ((j % 2 : Nat) : Int) - 1 := congrArg Prod.snd e
      omega
    have := nd_leK (b := (addL [] ks).map callE) hnd fun c hc => by
      obtain ⟨i, hi, rfl⟩ := List.mem_map.1 hc
      have hi := List.mem_range.1 hi
      obtain ⟨e, he, hce⟩ := hall (kN g i) ((hmem _).2 (kN_mem g (by omega)))
      exact List.mem_map.2 ⟨e, he, hce⟩
    rw [List.length_map, List.length_map, List.length_range] at this
    omega
  have h4 : (addL [] ks).length ≤ if (128 : Nat) < n then 128 else n := by split <;> omega
  have hon : ∀ e ∈ addL [] ks, onB [0] 0 e = false := fun e he => by
    obtain ⟨k, _, rfl⟩ := hnew e he
    rfl
  refine ⟨Nat.le_antisymm h4 h3, addL_srt ks List.Pairwise.nil, fun e he => ?_, ?_, ?_, ?_, ?_⟩
  · have hl := hlit e he
    obtain ⟨k, hk, rfl⟩ := hnew e he
    refine ⟨rfl, rfl, ?_⟩
    obtain ⟨t, _, ht⟩ := List.mem_map.1 hl
    have : (keyE (newE k)).2.2 = g := by rw [← ht]; rfl
    exact this
  · unfold stayL
    rw [List.filter_eq_self]
    exact fun e he => (litE_iff _ e).2 (hlit e he)
  · unfold stayL
    rw [List.filter_eq_nil_iff]
    exact fun e _ h => by cases (litE_iff _ e).1 h
  · rw [want_eq, List.filter_eq_self.2]
    exact fun e he => by rw [hon e he]; rfl
  · rw [want_eq, List.filter_eq_nil_iff.2, List.map_nil]
    intro e he
    obtain ⟨k, _, rfl⟩ := hnew e he
    rw [show onB [0] 1 (newE k) = true from rfl]
    decide
end Go.Proofs.Ytkenimmellonjaa
