/- OrderRing. -/
import Derived.Test.YtkenimmellonjaaD
namespace Go.Proofs.Ytkenimmellonjaa
open Go.Pv Go.RowKit Go.Shelf

/-- Turned by k. -/
def rotK (k : Nat) (l : List Int) : List Int := l.drop k ++ l.take k
theorem rotK_perm (k : Nat) (l : List Int) : (rotK k l).Perm l := by
  unfold rotK
  exact List.perm_append_comm.trans (by rw [List.take_append_drop])
theorem rotK_len (k : Nat) (l : List Int) : (rotK k l).length = l.length := (rotK_perm k l).length_eq
theorem rotK_get (l : List Int) {k i : Nat} (hk : k < l.length) (hi : i < l.length) : (rotK k l)[i]? = l[(k + i) % l.length]? := by
  unfold rotK
  rcases Nat.lt_or_ge (k + i) l.length with h | h
  · rw [List.getElem?_append_left (by rw [List.length_drop]; omega), List.getElem?_drop, Nat.mod_eq_of_lt h]
  · rw [List.getElem?_append_right (by rw [List.length_drop]; omega), List.length_drop, List.getElem?_take_of_lt (by omega)]
    congr 1
    rw [Nat.mod_eq_sub_mod h, Nat.mod_eq_of_lt (by omega)]
    omega
theorem next_rot {s : List Int} (hs : s.length ≤ 1000000) (hn : s.Nodup) {k i : Nat} (hk : k < s.length) (hi : i < s.length) {x : Int} (h : (rotK k s)[i]? = .some x) : ∃ y, s[(k + (i + 1)) % s.length]? = .some y ∧
    Contract Try.prog G0 20 [.d (.list 1 (rowsI s)), .d (.int .i64 x)] [] (fun r t => r = .tup [.d (.int .i64 y), .d (.bool true)] ∧ t = []) := by
  rw [rotK_get s hk hi] at h
  obtain ⟨y, h1, h2⟩ := next_at hs hn h
  refine ⟨y, ?_, h2⟩
  rw [← rotI_get s (Nat.mod_lt _ (by omega)), Nat.mod_add_mod] at h1
  exact h1
abbrev EnvR (l s : List Int) (by_ st x : Int) (v : AV) (i : Nat) : Env :=
  [(0, .d (.list 1 (rowsI l))), (1, .d (.int .i64 by_)), (4, .d (.bool false)), (5, .d (.bool true)), (6, .d (.list 1 (rowsI s))), (7, .d (.int .i64 st)), (8, .d (.int .i64 x)), (9, v), (10, .d (.int .i64 i)), (11, .undef), (12, .undef), (15, .undef), (23, .undef), (36, .undef), (48, .undef), (59, .undef), (71, .undef)]
theorem frR (l s : List Int) (by_ st x : Int) (q : List Int) (i c : Nat) (hr : (rowsI q).length = i) : GV cx4 0 (EnvR l s by_ st x (.slc (.g 0) 1 0 i c) i) [] [(0, .row 1 (rowsI q))] (EnvR l s by_ st x (.d (.list 1 (rowsI q))) i) [] := by
  have := GV.trans (cx := cx4) (n := 0) (GV.freeze (env := EnvR l s by_ st x (.slc (.g 0) 1 0 i c) i) (s := [(0, .row 1 (rowsI q))]) 0 rfl (by simp) (by repeat' first | exact trivial | apply And.intro | decide | (simp; done) | omega) (by repeat' first | exact trivial | apply And.intro)) (GV.gather [] rfl rfl rfl)
  have e : mapE (gsel []) (fzE 0 (AB.row 1 (rowsI q)) (EnvR l s by_ st x (.slc (.g 0) 1 0 i c) i)) = EnvR l s by_ st x (.d (.list 1 ((List.drop 0 (rowsI q)).take i))) i := rfl
  rw [e, List.drop_zero, List.take_of_length_le (by omega)] at this
  exact this
theorem orderRing (l : List Int) (by_ : Int) : Contract Try.prog G0 4 [.d (.list 1 (rowsI l)), .d (.int .i64 by_)] [] (fun r t => r = .d (.bool true) ∧ t = []) := by
  have hlen := rowsI_len l
  refine con4 0 rfl rfl ?_
  conv => whnf
  refine .inl (.inl ⟨[], _, ⟨.refl _, rfl, first18⟩, ?_⟩)
  conv => whnf
  refine bcase_intro (fun h => ?_) (fun h => ?_) <;> conv => whnf
  · exact ⟨rfl, rfl⟩
  have hl : 0 < l.length ∧ l.length ≤ 16 := by
    cases h1 : ((((rowsI l).length : Int)) == 0) with
    | true => rw [h1] at h; cases h
    | false =>
      rw [h1] at h
      have h : decide (((rowsI l).length : Int) > 16) = false := h
      have := of_decide_eq_false h
      rw [hlen] at h1
      have : l.length ≠ 0 := fun e => by rw [e] at h1; simp at h1
      omega
  refine .inl (.inr ⟨[.d (.list 1 (rowsI l))], _, ⟨WkL.refl _, rfl, set19 l (by omega)⟩, ?_⟩)
  conv => whnf
  have hsl := setI_len l
  have hinc := setI_inc l
  have hs0 : 0 < (setI l).length := by
    obtain ⟨x, hx⟩ := list_has l 0 hl.1
    exact List.length_pos_of_mem ((setI_mem l x).2 (List.mem_of_getElem? hx))
  generalize setI l = s at hsl hinc hs0
  have hslen := rowsI_len s
  have hnd := inc_nodup hinc
  refine bcase_intro (fun h => ?_) (fun h => ?_)
  · exfalso
    rw [hslen, hlen] at h
    rw [show (((s.length : Int)) == 0) = false by rw [beq_eq_false_iff_ne]; omega] at h
    have h : decide ((s.length : Int) > (l.length : Int)) = true := h
    have := of_decide_eq_true h
    omega
  conv => whnf
  have hnum := number by_ s.length hs0 (by omega)
  rw [← hslen] at hnum
  refine .inl (.inl ⟨_, _, ⟨.refl _, rfl, hnum⟩, ?_⟩)
  have hk := numB_lt by_ hs0
  rw [hslen]
  generalize numB by_ s.length = k at hk
  conv => whnf
  obtain ⟨a, ha⟩ := list_has s k hk
  refine ⟨rowI a, ⟨by omega, row_i ha⟩, ?_⟩
  conv => whnf
  have hrn : (rotK k s).Nodup := (rotK_perm k s).nodup_iff.2 hnd
  refine V.rounds (fun m env st => ∃ (i : Nat) (v : AV) (x : Int), i ≤ s.length ∧ m = s.length - i ∧ s[(k + i) % s.length]? = .some x ∧ ((i = 0 ∧ v = .d .nil ∧ st = []) ∨ ∃ c, 0 < i ∧ i ≤ c ∧ v = .slc (.g 0) 1 0 i c ∧ st = [(0, .row 1 (rowsI ((rotK k s).take i)))]) ∧ env = EnvR l s by_ a x v i)
    ⟨_, _, GV.drop [0, 1, 4, 5, 6, 7, 8, 9, 10], _, 0, .d .nil, a, Nat.zero_le _, rfl, by rw [Nat.add_zero, Nat.mod_eq_of_lt hk]; exact ha, .inl ⟨rfl, rfl, rfl⟩, rfl⟩ ?_
  rintro m env st ⟨i, v, x, hi, rfl, hx, hv, rfl⟩
  rcases Nat.lt_or_ge i s.length with hil | hge
  · have hxr : (rotK k s)[i]? = .some x := by rw [rotK_get s hk hil]; exact hx
    obtain ⟨y, hy, hnx⟩ := next_rot (by omega) hnd hk hil hxr
    have hdi : decide ((i : Int) < ((rowsI s).length : Int)) = true := by rw [hslen]; exact decide_eq_true (by omega)
    have hmem : (s.any fun y => x == y) = true := any_mem hx
    refine V.of (kt := kt4) tabOK mixed (by kernel_rfl) ?_
    rcases hv with ⟨rfl, rfl, rfl⟩ | ⟨c, hi0, hc, rfl, rfl⟩
    · conv => whnf
      rw [hdi]
      conv => whnf
      refine .inl (.inl ⟨[.d (.list 1 (rowsI [])), .d (.int .i64 x)], _, ⟨.n 1 (.refl _), rfl, among [] (by simp) x⟩, ?_⟩)
      conv => whnf
      refine .inl (.inl ⟨[.d (.list 1 (rowsI s)), .d (.int .i64 x)], _, fun _ => ⟨.refl _, rfl, has s (by omega) x⟩, ?_⟩)
      rw [hmem]
      conv => whnf
      refine ⟨⟨?_, ?_⟩, ?_⟩
      · show (2 * 1 + 1024) * 8 ≤ 281474976710656; omega
      · show 1 ≤ _; omega
      conv => whnf
      intro c hc
      conv => whnf
      refine .inl (.inl ⟨[.d (.list 1 (rowsI s)), .d (.int .i64 x)], _, ⟨.refl _, rfl, hnx⟩, ?_⟩)
      conv => whnf
      refine ⟨_, _, GV.drop [0, 1, 4, 5, 6, 7, 8, 9, 10], _, by omega, 1, .slc (.g 0) 1 0 1 c, y, by omega, rfl, hy, .inr ⟨c, by omega, hc, rfl, ?_⟩, rfl⟩
      refine congrArg (fun q => [(0, AB.row 1 q)]) ?_
      rw [List.take_add_one, hxr]
      rfl
    · conv => whnf
      rw [hdi]
      conv => whnf
      have hti : ((rotK k s).take i).length = i := by rw [List.length_take, rotK_len]; omega
      have hseg : rowsI ((rotK k s).take i) = (List.drop 0 (rowsI ((rotK k s).take i))).take i := by
        rw [List.drop_zero]
        exact (List.take_of_length_le (by rw [rowsI_len, hti]; exact Nat.le_refl _)).symm
      refine .inl (.inl ⟨[.d (.list 1 (rowsI ((rotK k s).take i))), .d (.int .i64 x)], _, ⟨.own 0 1 0 i c _ _ rfl (by rw [rowsI_len, hti]; omega) (by decide) hseg (.refl _), rfl, among _ (by rw [hti]; omega) x⟩, ?_⟩)
      rw [not_yet hrn hxr]
      conv => whnf
      refine .inl (.inl ⟨[.d (.list 1 (rowsI s)), .d (.int .i64 x)], _, fun _ => ⟨.refl _, rfl, has s (by omega) x⟩, ?_⟩)
      rw [hmem]
      conv => whnf
      refine ⟨by rw [rowsI_len, hti]; omega, ⟨?_, ?_⟩, ?_⟩
      · show (2 * (i + 1) + 1024) * 8 ≤ 281474976710656; omega
      · show i + 1 ≤ _; omega
      conv => whnf
      intro c2 hc2
      conv => whnf
      refine .inl (.inl ⟨[.d (.list 1 (rowsI s)), .d (.int .i64 x)], _, ⟨.refl _, rfl, hnx⟩, ?_⟩)
      conv => whnf
      rw [succ_i hil (by omega)]
      refine ⟨_, _, GV.trans (GV.gather [1] rfl rfl rfl) (GV.drop [0, 1, 4, 5, 6, 7, 8, 9, 10]), _, by omega, i + 1, .slc (.g 0) 1 0 (i + 1) c2, y, hil, rfl, hy, .inr ⟨c2, by omega, hc2, rfl, ?_⟩, rfl⟩
      refine congrArg (fun q => [(0, AB.row 1 q)]) ?_
      rw [List.take_of_length_le (by rw [rowsI_len, hti]; omega), List.take_add_one, hxr]
      simp [rowsI, rowI]
  have hil : i = s.length := by omega
  have hti : (rotK k s).take i = rotK k s := by rw [hil, ← rotK_len k s, List.take_length]
  have hdi : decide ((s.length : Int) < ((rowsI s).length : Int)) = false := by rw [hslen]; exact decide_eq_false (by omega)
  have hxa : x = a := by
    rw [hil, Nat.add_mod_right, Nat.mod_eq_of_lt hk, ha] at hx
    exact (Option.some.inj hx).symm
  subst hxa
  have hr : (rowsI (rotK k s)).length = s.length := by rw [rowsI_len, rotK_len]
  have hg : GV cx4 0 (EnvR l s by_ x x v i) [] st (EnvR l s by_ x x (.d (.list 1 (rowsI (rotK k s)))) s.length) [] := by
    rcases hv with ⟨rfl, rfl, rfl⟩ | ⟨c, hi0, hc, rfl, rfl⟩
    · omega
    · rw [hti]
      rw [hil] at hi0 hc ⊢
      exact frR l s by_ x x (rotK k s) s.length c hr
  refine V.ghost hg ?_
  refine V.of (kt := kt4) tabOK mixed (by kernel_rfl) ?_
  conv => whnf
  rw [hdi]
  conv => whnf
  refine .inl (.inr ⟨[.d (.list 1 (rowsI (rotK k s)))], _, fun _ => ⟨WkL.refl _, rfl, set19 (rotK k s) (by rw [rotK_len]; omega)⟩, ?_⟩)
  rw [setI_perm (rotK_perm k s) hinc]
  conv => whnf
  refine .inl (.inl ⟨[.d (.list 1 (rowsI s)), .d (.list 1 (rowsI s))], _, fun _ => ⟨.refl _, rfl, same22 s s (by omega)⟩, ?_⟩)
  conv => whnf
  refine ⟨rd_bool ?_, rfl⟩
  simp
end Go.Proofs.Ytkenimmellonjaa
