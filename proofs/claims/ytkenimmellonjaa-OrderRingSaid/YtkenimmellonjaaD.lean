/- OrderTurns. -/
import Derived.Test.YtkenimmellonjaaC
import Derived.Test.YtkenimmellonjaaD0
namespace Go.Proofs.Ytkenimmellonjaa
open Go.Pv Go.RowKit Go.Shelf

def nextI (l : List Int) (x : Int) : Int := match idxFrom (fun y => x == y) l 0 with
  | .ofNat k => (l[(k + 1) % l.length]?).getD 0
  | .negSucc _ => 0
/-- Turned by one. -/
def rotI (l : List Int) : List Int := l.drop 1 ++ l.take 1
theorem rotI_perm (l : List Int) : (rotI l).Perm l := by
  unfold rotI
  exact List.perm_append_comm.trans (by rw [List.take_append_drop])
theorem rotI_len (l : List Int) : (rotI l).length = l.length := (rotI_perm l).length_eq
theorem rotI_get (l : List Int) {k : Nat} (hk : k < l.length) : l[(k + 1) % l.length]? = (rotI l)[k]? := by
  cases l with
  | nil => simp at hk
  | cons x r =>
    simp only [List.length_cons] at hk ⊢
    unfold rotI
    simp only [List.drop_succ_cons, List.drop_zero, List.take_succ_cons, List.take_zero]
    rcases Nat.lt_or_ge k r.length with h | h
    · rw [Nat.mod_eq_of_lt (by omega), List.getElem?_append_left h]
      simp
    · have : k = r.length := by omega
      subst this
      rw [Nat.mod_self, List.getElem?_append_right (Nat.le_refl _)]
      simp
theorem nextI_get {l : List Int} (hn : l.Nodup) {i : Nat} {x : Int} (h : l[i]? = .some x) : (rotI l)[i]? = .some (nextI l x) := by
  have hi := (List.getElem?_eq_some_iff.1 h).1
  have h1 := idx_nodup l 0 i x hn h
  rw [Nat.zero_add] at h1
  unfold nextI
  have h2 : idxFrom (fun y => x == y) l 0 = Int.ofNat i := h1
  rw [h2]
  simp only
  rw [rotI_get l hi]
  have := List.getElem?_eq_getElem (show i < (rotI l).length by rw [rotI_len]; exact hi)
  rw [this]
  rfl
theorem any_mem {l : List Int} {i : Nat} {x : Int} (h : l[i]? = .some x) : (l.any fun y => x == y) = true := by
  rw [List.any_eq_true]
  exact ⟨x, List.mem_of_getElem? h, by simp⟩
theorem not_yet {l : List Int} (hn : l.Nodup) {i : Nat} {x : Int} (h : l[i]? = .some x) : ((l.take i).any fun y => y == x) = false := by
  rw [List.any_eq_false]
  intro y hy
  simp only [beq_iff_eq]
  rintro rfl
  obtain ⟨j, hj, hjy⟩ := List.mem_iff_getElem.1 hy
  have hi := (List.getElem?_eq_some_iff.1 h)
  obtain ⟨hi1, hi2⟩ := hi
  rw [List.getElem_take] at hjy
  simp only [List.length_take] at hj
  have := (List.getElem_inj hn (h₀ := by omega) (h₁ := hi1)).1 (hjy.trans hi2.symm)
  omega
theorem next_at {s : List Int} (hs : s.length ≤ 1000000) (hn : s.Nodup) {i : Nat} {x : Int} (h : s[i]? = .some x) : ∃ y, (rotI s)[i]? = .some y ∧
    Contract Try.prog G0 20 [.d (.list 1 (rowsI s)), .d (.int .i64 x)] [] (fun r t => r = .tup [.d (.int .i64 y), .d (.bool true)] ∧ t = []) := by
  have := next s hs x
  rw [any_mem h] at this
  exact ⟨nextI s x, nextI_get hn h, this⟩
theorem next_nil (x : Int) : Contract Try.prog G0 20 [.d (.list 1 (rowsI [])), .d (.int .i64 x)] [] (fun r t => r = .tup [.d (.int .i64 0), .d (.bool false)] ∧ t = []) := by
  refine con20 0 rfl rfl ?_
  conv => whnf
  refine .inl (.inl ⟨[.d (.list 1 (rowsI [])), .d (.int .i64 x)], .d (.int .i64 (-1)), ⟨.refl _, rfl, index [] (by simp) x⟩, ?_⟩)
  conv => whnf
  exact ⟨rfl, rfl⟩
abbrev EnvT (l s : List Int) (by_ : Int) (v : AV) (i : Nat) : Env :=
  [(0, .d (.list 1 (rowsI l))), (1, .d (.int .i64 by_)), (4, .d (.bool false)), (5, .d (.bool true)), (6, .d (.list 1 (rowsI s))), (7, v), (8, .d (.int .i64 i)), (9, .undef), (10, .undef), (12, .undef), (14, .undef), (17, .undef), (20, .undef), (27, .undef), (45, .undef)]
theorem frT (l s : List Int) (by_ : Int) (i c : Nat) (hr : (rowsI (rotI s)).length = i) : GV cx3 0 (EnvT l s by_ (.slc (.g 0) 1 0 i c) i) [] [(0, .row 1 (rowsI (rotI s)))] (EnvT l s by_ (.d (.list 1 (rowsI (rotI s)))) i) [] := by
  have := GV.trans (cx := cx3) (n := 0) (GV.freeze (env := EnvT l s by_ (.slc (.g 0) 1 0 i c) i) (s := [(0, .row 1 (rowsI (rotI s)))]) 0 rfl (by simp) (by repeat' first | exact trivial | apply And.intro | decide | (simp; done) | omega) (by repeat' first | exact trivial | apply And.intro)) (GV.gather [] rfl rfl rfl)
  have e : mapE (gsel []) (fzE 0 (AB.row 1 (rowsI (rotI s))) (EnvT l s by_ (.slc (.g 0) 1 0 i c) i)) = EnvT l s by_ (.d (.list 1 ((List.drop 0 (rowsI (rotI s))).take i))) i := rfl
  rw [e, List.drop_zero, List.take_of_length_le (by omega)] at this
  exact this
theorem frT0 (l : List Int) (by_ : Int) : GV cx3 0 (EnvT l [] by_ (.d .nil) 0) [] [] (EnvT l [] by_ (.d (.list 1 [])) 0) [] := GV.wk 7 1
theorem orderTurns (l : List Int) (by_ : Int) : Contract Try.prog G0 3 [.d (.list 1 (rowsI l)), .d (.int .i64 by_)] [] (fun r t => r = .d (.bool true) ∧ t = []) := by
  have hlen := rowsI_len l
  refine con3 0 rfl rfl ?_
  conv => whnf
  refine .inl (.inl ⟨[], _, ⟨.refl _, rfl, first18⟩, ?_⟩)
  conv => whnf
  refine bcase_intro (fun h => ?_) (fun h => ?_) <;> conv => whnf
  · exact ⟨rfl, rfl⟩
  have hl : l.length ≤ 16 := by have := of_decide_eq_false h; omega
  refine .inl (.inr ⟨[.d (.list 1 (rowsI l))], _, ⟨WkL.refl _, rfl, set19 l (by omega)⟩, ?_⟩)
  conv => whnf
  have hsl := setI_len l
  have hinc := setI_inc l
  generalize setI l = s at hsl hinc
  have hslen := rowsI_len s
  have hnd := inc_nodup hinc
  have hrn : (rotI s).Nodup := (rotI_perm s).nodup_iff.2 hnd
  refine V.rounds (fun m env st => ∃ (i : Nat) (v : AV), i ≤ s.length ∧ m = s.length - i ∧ ((i = 0 ∧ v = .d .nil ∧ st = []) ∨ ∃ c, 0 < i ∧ i ≤ c ∧ v = .slc (.g 0) 1 0 i c ∧ st = [(0, .row 1 (rowsI ((rotI s).take i)))]) ∧ env = EnvT l s by_ v i)
    ⟨_, _, GV.drop [0, 1, 4, 5, 6, 7, 8], _, 0, .d .nil, Nat.zero_le _, rfl, .inl ⟨rfl, rfl, rfl⟩, rfl⟩ ?_
  rintro m env st ⟨i, v, hi, rfl, hv, rfl⟩
  rcases Nat.lt_or_ge i s.length with h | hge
  · refine V.of (kt := kt3) tabOK mixed (by kernel_rfl) ?_
    have hdi : decide ((i : Int) < ((rowsI s).length : Int)) = true := by rw [hslen]; exact decide_eq_true (by omega)
    rcases hv with ⟨rfl, rfl, rfl⟩ | ⟨c, hi0, hc, rfl, rfl⟩
    · conv => whnf
      rw [hdi]
      conv => whnf
      obtain ⟨x, hx, hdrop⟩ := at_i h
      refine ⟨rowI x, ⟨by omega, row_i hx⟩, ?_⟩
      conv => whnf
      obtain ⟨y, hy, hnx⟩ := next_at (by omega) hnd hx
      refine .inl (.inl ⟨[.d (.list 1 (rowsI s)), .d (.int .i64 x)], _, ⟨.refl _, rfl, hnx⟩, ?_⟩)
      conv => whnf
      refine .inl (.inl ⟨[.d (.list 1 (rowsI [])), .d (.int .i64 y)], _, fun _ => ⟨.n 1 (.refl _), rfl, among [] (by simp) y⟩, ?_⟩)
      conv => whnf
      refine ⟨⟨?_, ?_⟩, ?_⟩
      · show (2 * 1 + 1024) * 8 ≤ 281474976710656; omega
      · show 1 ≤ _; omega
      conv => whnf
      intro c hc
      conv => whnf
      refine ⟨_, _, GV.drop [0, 1, 4, 5, 6, 7, 8], _, by omega, 1, .slc (.g 0) 1 0 1 c, by omega, rfl, .inr ⟨c, by omega, hc, rfl, ?_⟩, rfl⟩
      refine congrArg (fun q => [(0, AB.row 1 q)]) ?_
      rw [List.take_add_one, hy]
      rfl
    · conv => whnf
      rw [hdi]
      conv => whnf
      obtain ⟨x, hx, hdrop⟩ := at_i h
      obtain ⟨y, hy, hnx⟩ := next_at (by omega) hnd hx
      refine ⟨rowI x, ⟨by omega, row_i hx⟩, ?_⟩
      conv => whnf
      refine .inl (.inl ⟨[.d (.list 1 (rowsI s)), .d (.int .i64 x)], _, ⟨.refl _, rfl, hnx⟩, ?_⟩)
      conv => whnf
      have hti : ((rotI s).take i).length = i := by rw [List.length_take, rotI_len]; omega
      have hseg : rowsI ((rotI s).take i) = (List.drop 0 (rowsI ((rotI s).take i))).take i := by
        rw [List.drop_zero]
        exact (List.take_of_length_le (by rw [rowsI_len, hti]; exact Nat.le_refl _)).symm
      refine .inl (.inl ⟨[.d (.list 1 (rowsI ((rotI s).take i))), .d (.int .i64 y)], _, fun _ => ⟨.own 0 1 0 i c _ _ rfl (by rw [rowsI_len, hti]; omega) (by decide) hseg (.refl _), rfl, among _ (by rw [hti]; omega) y⟩, ?_⟩)
      rw [not_yet hrn hy]
      conv => whnf
      refine ⟨by rw [rowsI_len, hti]; omega, ⟨?_, ?_⟩, ?_⟩
      · show (2 * (i + 1) + 1024) * 8 ≤ 281474976710656; omega
      · show i + 1 ≤ _; omega
      conv => whnf
      intro c2 hc2
      conv => whnf
      rw [succ_i h (by omega)]
      refine ⟨_, _, GV.trans (GV.gather [1] rfl rfl rfl) (GV.drop [0, 1, 4, 5, 6, 7, 8]), _, by omega, i + 1, .slc (.g 0) 1 0 (i + 1) c2, h, rfl, .inr ⟨c2, by omega, hc2, rfl, ?_⟩, rfl⟩
      refine congrArg (fun q => [(0, AB.row 1 q)]) ?_
      rw [List.take_of_length_le (by rw [rowsI_len, hti]; omega), List.take_add_one, hy]
      simp [rowsI, rowI]
  have hil : i = s.length := by omega
  have hti : (rotI s).take i = rotI s := by rw [hil, ← rotI_len s, List.take_length]
  have hdi : decide ((s.length : Int) < ((rowsI s).length : Int)) = false := by rw [hslen]; exact decide_eq_false (by omega)
  have hg : GV cx3 0 (EnvT l s by_ v i) [] st (EnvT l s by_ (.d (.list 1 (rowsI (rotI s)))) s.length) [] := by
    rcases hv with ⟨rfl, rfl, rfl⟩ | ⟨c, hi0, hc, rfl, rfl⟩
    · have hs0 : s = [] := List.eq_nil_of_length_eq_zero (by omega)
      subst hs0
      exact frT0 l by_
    · rw [hti]
      have hr : (rowsI (rotI s)).length = s.length := by rw [rowsI_len, rotI_len]
      rw [hil] at hi0 hc ⊢
      exact frT l s by_ s.length c hr
  refine V.ghost hg ?_
  refine V.of (kt := kt3) tabOK mixed (by kernel_rfl) ?_
  conv => whnf
  rw [hdi]
  conv => whnf
  refine .inl (.inl ⟨[.d (.list 1 (rowsI s)), .d (.int .i64 by_)], _, ⟨.refl _, rfl, next s (by omega) by_⟩, ?_⟩)
  conv => whnf
  refine .inl (.inl ⟨[.d (.list 1 (rowsI [])), .d (.int .i64 by_)], _, ⟨.n 1 (.refl _), rfl, next_nil by_⟩, ?_⟩)
  conv => whnf
  refine .inl (.inr ⟨[.d (.list 1 (rowsI (rotI s)))], _, fun _ => ⟨WkL.refl _, rfl, set19 (rotI s) (by rw [rotI_len]; omega)⟩, ?_⟩)
  rw [setI_perm (rotI_perm s) hinc]
  conv => whnf
  refine .inl (.inl ⟨[.d (.list 1 (rowsI s)), .d (.list 1 (rowsI s))], _, fun _ => ⟨.refl _, rfl, same22 s s (by omega)⟩, ?_⟩)
  conv => whnf
  refine .inl (.inl ⟨[.d (.list 1 (rowsI s)), .d (.int .i64 by_)], _, fun _ => ⟨.refl _, rfl, has s (by omega) by_⟩, ?_⟩)
  conv => whnf
  refine .inl (.inl ⟨[.d (.int .i64 1), .d (.int .i64 ((2 : Nat) : Int))], _, fun _ => ⟨.refl _, rfl, number 1 2 (by omega) (by omega)⟩, ?_⟩)
  conv => whnf
  refine ⟨rd_bool ?_, rfl⟩
  rw [show ((numB 1 2 : Nat) : Int) = 1 by decide]
  simp
end Go.Proofs.Ytkenimmellonjaa
