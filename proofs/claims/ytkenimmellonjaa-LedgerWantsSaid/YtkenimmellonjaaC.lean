/- Seat r2: sorting, compacting, sets. -/
import Derived.Test.YtkenimmellonjaaB
import Derived.Test.YtkenimmellonjaaL
namespace Go.Proofs.Ytkenimmellonjaa
open Go.Pv Go.RowKit Go.Shelf

theorem equal (a b : List Int) (ha : a.length ≤ 4611686018427387904) : Contract Try.prog G0 71 [.d (.list 1 (rowsI a)), .d (.list 1 (rowsI b))] [] (fun r t => r = .d (.bool (a == b)) ∧ t = []) := by
  have hlen := rowsI_len a
  have hlen2 := rowsI_len b
  refine con71 0 rfl rfl ?_
  conv => whnf
  refine bcase_intro (fun h => ?_) (fun h => ?_) <;> conv => whnf
  · rw [hlen, hlen2] at h
    refine ⟨rd_bool ?_, rfl⟩
    symm
    rw [beq_eq_false_iff_ne]
    rintro rfl
    simp at h
  have hab : a.length = b.length := by
    rw [hlen, hlen2] at h
    simp at h
    omega
  refine V.rounds (fun m env s => ∃ i : Nat, i ≤ a.length ∧ m = a.length - i ∧ a.take i = b.take i ∧
    env = [(0, .d (.list 1 (rowsI a))), (1, .d (.list 1 (rowsI b))), (4, .d (.bool false)), (5, .undef), (10, .undef), (12, .d (.int .i64 ((rowsI a).length : Int))), (13, .d (.int .i64 (i : Int))), (14, .undef), (24, .undef)] ∧ s = [])
    ⟨_, _, GV.drop [0, 1, 4, 12, 13], _, 0, Nat.zero_le _, rfl, rfl, rfl, rfl⟩ ?_
  rintro m env s ⟨i, hi, rfl, heq, rfl, rfl⟩
  refine V.of (kt := kt71) tabOK mixed (by kernel_rfl) ?_
  conv => whnf
  refine bcase_intro (fun h => ?_) (fun h => ?_) <;> conv => whnf
  · have h := lt_of h
    rw [hlen] at h
    obtain ⟨x, hx, hdrop⟩ := at_i h
    obtain ⟨y, hy, hdrop2⟩ := at_i (l := b) (i := i) (by omega)
    refine ⟨rowI x, ⟨by omega, row_i hx⟩, ?_⟩
    conv => whnf
    refine ⟨rowI y, ⟨by omega, row_i hy⟩, ?_⟩
    conv => whnf
    refine bcase_intro (fun h2 => ?_) (fun h2 => ?_) <;> conv => whnf
    · refine ⟨rd_bool ?_, rfl⟩
      symm
      rw [beq_eq_false_iff_ne]
      intro e
      subst e
      rw [hx] at hy
      cases hy
      simp at h2
    · refine ⟨_, _, GV.drop [0, 1, 4, 12, 13], _, by omega, i + 1, h, rfl, ?_, ?_, rfl⟩
      · have h2 : x = y := by simpa using h2
        rw [List.take_add_one, List.take_add_one, heq, hx, hy, h2]
      · rw [← succ_i h ha]; rfl
  · have h := ge_of h
    rw [hlen] at h
    refine ⟨rd_bool ?_, rfl⟩
    rw [List.take_of_length_le h, List.take_of_length_le (by omega)] at heq
    symm
    simp [heq]
theorem same22 (a b : List Int) (ha : a.length ≤ 4611686018427387904) : Contract Try.prog G0 22 [.d (.list 1 (rowsI a)), .d (.list 1 (rowsI b))] [] (fun r t => r = .d (.bool (a == b)) ∧ t = []) := by
  refine con22 0 rfl rfl ?_
  conv => whnf
  refine .inl (.inl ⟨[.d (.list 1 (rowsI a)), .d (.list 1 (rowsI b))], _, ⟨.refl _, rfl, equal a b ha⟩, ?_⟩)
  conv => whnf
  exact ⟨rfl, rfl⟩
theorem sort68 (l : List Int) (hl : l.length < 4611686018427387904) (cap : Nat) : Contract Try.prog G0 68 [.slc (.g 0) 1 0 l.length cap] [(0, .row 1 (rowsI l))] (fun r t => r = .tup [] ∧ t = [(0, .row 1 (rowsI (sortI l)))]) :=
  Contract.sort_ints (enters_of Try.func68 (by kernel_rfl) rfl) sortI sortI_len (fun blk off cap zs w => Any.slices_Sort_int lays189 blk off cap zs w) (fun p cap w => Any.slices_Sort_int_none lays189 p cap w) l hl cap
theorem dd_take {l : List Int} {i : Nat} {x y : Int} (hi : 0 < i) (hx : l[i - 1]? = .some x) (hy : l[i]? = .some y) : dd (l.take (i + 1)) = dd (l.take i) ++ (if x = y then [] else [y]) := by
  obtain ⟨j, rfl⟩ : ∃ j, i = j + 1 := ⟨i - 1, by omega⟩
  simp only [Nat.add_sub_cancel] at hx
  have h1 : l.take (j + 1 + 1) = l.take j ++ [x, y] := by
    rw [List.take_add_one, List.take_add_one, hx, hy]
    simp
  have h2 : l.take (j + 1) = l.take j ++ [x] := by
    rw [List.take_add_one, hx]
    simp
  rw [h1, h2, dd_snoc]
theorem row_at {l : List Int} {k i : Nat} {x : Int} (h : l[k + i]? = .some x) : (rowsI l)[k + (i : Int).toNat]? = some (rowI x) := by simp [rowsI, h]
theorem compact (l : List Int) (hl : l.length ≤ 1000000) (cap : Nat) (hc : l.length ≤ cap) : Contract Try.prog G0 69 [.slc (.g 0) 1 0 l.length cap] [(0, .row 1 (rowsI l))]
    (fun r t => ∃ cur : List Int, cur.length = l.length ∧ cur.take (dd l).length = dd l ∧ r = .slc (.g 0) 1 0 (dd l).length cap ∧ t = [(0, .row 1 (rowsI cur))]) := by
  have hlen := rowsI_len l
  refine con69 1 rfl rfl ?_
  conv => whnf
  refine bcase_intro (fun h => ?_) (fun h => ?_) <;> conv => whnf
  · have h := of_decide_eq_true h
    have hd : dd l = l := by
      match l, h with
      | [], _ => rfl
      | [x], _ => rfl
      | x :: y :: r, h => simp at h; omega
    exact ⟨l, rfl, by rw [hd, List.take_length], by rw [hd], rfl⟩
  have h := of_decide_eq_false h
  refine V.rounds (fun m env s => ∃ i : Nat, 0 < i ∧ i ≤ l.length ∧ m = l.length - i ∧ dd (l.take i) = l.take i ∧
    env = [(0, .slc (.g 0) 1 0 l.length cap), (2, .d .nil), (3, .d (.int .i64 i)), (4, .undef), (5, .undef), (8, .undef), (13, .undef), (25, .undef), (32, .undef), (44, .undef)] ∧ s = [(0, .row 1 (rowsI l))])
    ⟨_, _, GV.drop [0, 2, 3], _, 1, by omega, by omega, rfl, ?_, rfl, rfl⟩ ?_
  · cases l with
    | nil => rfl
    | cons x r => rfl
  rintro m env s ⟨i, hi0, hi, rfl, hdd, rfl, rfl⟩
  refine V.of (kt := kt69) tabOK mixed (by kernel_rfl) ?_
  conv => whnf
  refine bcase_intro (fun h => ?_) (fun h => ?_) <;> conv => whnf
  · have h := lt_of h
    refine ⟨⟨by omega, by omega⟩, ?_⟩
    conv => whnf
    obtain ⟨y, hy⟩ := list_has l i h
    obtain ⟨x, hx⟩ := list_has l (i - 1) (by omega)
    refine ⟨rowI y, row_at (by rw [Nat.zero_add]; exact hy), rfl, ?_⟩
    conv => whnf
    rw [pred_i hi0 (by omega)]
    refine ⟨⟨by omega, by omega⟩, ?_⟩
    conv => whnf
    refine ⟨rowI x, row_at (by rw [Nat.zero_add]; exact hx), rfl, ?_⟩
    conv => whnf
    have hst := dd_take hi0 hx hy
    refine bcase_intro (fun h2 => ?_) (fun h2 => ?_) <;> conv => whnf
    · have h2 : y = x := by simpa using h2
      subst h2
      rw [if_pos rfl, List.append_nil] at hst
      refine ⟨⟨by omega, by omega, by omega⟩, ?_⟩
      conv => whnf
      refine V.rounds (fun m env s => ∃ (j q : Nat) (cur : List Int), 0 < j ∧ i + j ≤ l.length ∧ m = l.length - (i + j) ∧ q ≤ i + j - 1 ∧ cur.length = l.length ∧ cur.take q = dd (l.take (i + j)) ∧ (dd (l.take (i + j))).length = q ∧ cur.drop (i + j - 1) = l.drop (i + j - 1) ∧
        env = [(0, .slc (.g 0) 1 0 l.length cap), (2, .d .nil), (3, .d (.int .i64 q)), (4, .slc (.g 0) 1 i (l.length - i) (cap - i)), (5, .d (.int .i64 j)), (8, .undef), (13, .undef), (25, .undef), (32, .undef), (44, .undef)] ∧ s = [(0, .row 1 (rowsI cur))])
        ⟨_, _, GV.drop [0, 2, 3, 4, 5], _, 1, i, l, by omega, by omega, rfl, by omega, rfl, ?_, ?_, rfl, ?_, rfl⟩ ?_
      · rw [hst, hdd]
      · rw [hst, hdd, List.length_take]; omega
      · simp only [Int.toNat_natCast, Nat.zero_add]
        rfl
      rintro m env s ⟨j, q, cur, hj0, hj, rfl, hq, hcl, hcur, hql, hrest, rfl, rfl⟩
      refine V.of (kt := kt69) tabOK mixed (by kernel_rfl) ?_
      conv => whnf
      refine bcase_intro (fun h => ?_) (fun h => ?_) <;> conv => whnf
      · have h := lt_of h
        obtain ⟨u, hu⟩ := list_has l (i + j) (by omega)
        obtain ⟨p, hp⟩ := list_has l (i + j - 1) (by omega)
        have hcu : cur[i + j]? = .some u := by
          have := congrArg (fun q => q[1]?) hrest
          simp only [List.getElem?_drop] at this
          rwa [show i + j - 1 + 1 = i + j by omega, hu] at this
        have hcp : cur[i + j - 1]? = .some p := by
          have := congrArg (fun q => q[0]?) hrest
          simp only [List.getElem?_drop] at this
          rwa [show i + j - 1 + 0 = i + j - 1 by omega, hp] at this
        refine ⟨⟨by omega, by omega⟩, ?_⟩
        conv => whnf
        refine ⟨rowI u, row_at hcu, rfl, ?_⟩
        conv => whnf
        rw [pred_i hj0 (by omega)]
        refine ⟨⟨by omega, by omega⟩, ?_⟩
        conv => whnf
        refine ⟨rowI p, row_at (by rw [show i + (j - 1) = i + j - 1 by omega]; exact hcp), rfl, ?_⟩
        conv => whnf
        have hst2 := dd_take (show 0 < i + j by omega) hp hu
        refine bcase_intro (fun h3 => ?_) (fun h3 => ?_) <;> conv => whnf
        · have h3 : u ≠ p := by simpa using h3
          rw [if_neg (fun e => h3 e.symm)] at hst2
          refine ⟨⟨by omega, by omega⟩, ?_⟩
          conv => whnf
          refine ⟨rowI u, row_at hcu, rfl, ?_⟩
          conv => whnf
          refine ⟨⟨by omega, by omega⟩, ?_⟩
          conv => whnf
          obtain ⟨v, hv⟩ := list_has cur q (by omega)
          refine ⟨rowI v, row_at (by rw [Nat.zero_add]; exact hv), ?_⟩
          conv => whnf
          rw [succ_i (n := l.length) (i := q) (by omega) (by omega), succ_i (n := l.length) (i := j) (by omega) (by omega)]
          refine ⟨_, _, GV.drop [0, 2, 3, 4, 5], _, by omega, j + 1, q + 1, cur.set q u, by omega, by omega, rfl, by omega, by simp [hcl], ?_, ?_, ?_, rfl, ?_⟩
          · rw [← Nat.add_assoc, hst2, ← hcur, List.take_add_one, List.take_set_of_le (Nat.le_refl _)]
            simp [show q < cur.length by omega]
          · rw [← Nat.add_assoc, hst2, List.length_append, hql]; rfl
          · have := congrArg List.tail hrest
            rw [List.tail_drop, List.tail_drop] at this
            rw [List.drop_set_of_lt (by omega), show i + (j + 1) - 1 = i + j - 1 + 1 by omega]
            exact this
          · refine congrArg (fun q => [(0, AB.row 1 q)]) ?_
            simp [rowsI, List.map_set, setN, rowI]
        · have h3 : u = p := by simpa using h3
          rw [if_pos h3.symm, List.append_nil] at hst2
          rw [succ_i (n := l.length) (by omega) (by omega)]
          refine ⟨_, _, GV.drop [0, 2, 3, 4, 5], _, by omega, j + 1, q, cur, by omega, by omega, rfl, by omega, hcl, ?_, ?_, ?_, rfl, rfl⟩
          · rw [← Nat.add_assoc, hst2, hcur]
          · rw [← Nat.add_assoc, hst2, hql]
          · have := congrArg List.tail hrest
            rwa [List.tail_drop, List.tail_drop, show i + j - 1 + 1 = i + (j + 1) - 1 by omega] at this
      · have h := ge_of h
        have hij : i + j = l.length := by omega
        rw [hij, List.take_length] at hcur hql
        refine ⟨⟨by omega, by omega, by omega⟩, ?_⟩
        conv => whnf
        refine ⟨by simp [rowsI]; omega, ?_⟩
        conv => whnf
        refine ⟨⟨by omega, by omega, by omega⟩, ?_⟩
        conv => whnf
        refine ⟨cur.take q ++ List.replicate (l.length - q) 0, by simp; omega, ?_, ?_, ?_⟩
        · rw [hql, List.take_append_of_le_length (by simp; omega), List.take_take, Nat.min_self]
          exact hcur
        · rw [hql]; rfl
        · refine congrArg (fun q => [(0, AB.row 1 q)]) ?_
          have hz : ti3.zero = rowI 0 := rfl
          rw [hz, Nat.zero_add, Int.toNat_natCast, Int.toNat_natCast]
          unfold splice
          rw [List.length_replicate, show q + (l.length - q) = l.length by omega, List.drop_eq_nil_of_le (by simp [rowsI]; omega)]
          simp [rowsI, List.map_take]
    · have h2 : y ≠ x := by simpa using h2
      rw [if_neg (fun e => h2 e.symm), hdd] at hst
      rw [succ_i h (by omega)]
      refine ⟨_, _, GV.drop [0, 2, 3], _, by omega, i + 1, by omega, h, rfl, ?_, rfl, rfl⟩
      rw [hst, List.take_add_one, hy]
      rfl
  · have h := ge_of h
    have hil : i = l.length := by omega
    subst hil
    rw [List.take_length] at hdd
    refine ⟨l, rfl, by rw [hdd, List.take_length], ?_, ?_⟩
    · rw [hdd]
    · rfl
theorem sort_nil : Contract Try.prog G0 68 [.d (.list 1 [])] [] (fun r t => r = .tup [] ∧ t = []) :=
  Contract.sort_none (enters_of Try.func68 (by kernel_rfl) rfl) fun p cap w => Any.slices_Sort_int_none lays189 p cap w
theorem compact_nil : Contract Try.prog G0 69 [.d (.list 1 [])] [] (fun r t => r = .d (.list 1 []) ∧ t = []) := by
  refine con69 0 rfl rfl ?_
  conv => whnf
  exact ⟨rfl, rfl⟩
theorem set19 (l : List Int) (hl : l.length ≤ 100000) : Contract Try.prog G0 19 [.d (.list 1 (rowsI l))] [] (fun r t => r = .d (.list 1 (rowsI (setI l))) ∧ t = []) := by
  cases l with
  | nil =>
    refine conG19 0 rfl rfl ?_
    conv => whnf
    refine .inr (.inl ⟨_, _, ⟨WkL.refl _, clone_nil⟩, fun res s1 h => ?_⟩)
    obtain ⟨h, rfl⟩ := h
    rcases h with rfl | rfl
    · conv => whnf
      refine .inl (.inl ⟨[.d (.list 1 [])], _, ⟨.n 1 .nil, rfl, sort_nil⟩, ?_⟩)
      conv => whnf
      refine .inl (.inr ⟨[.d (.list 1 [])], _, ⟨.n 1 .nil, rfl, compact_nil⟩, ?_⟩)
      conv => whnf
      refine ⟨_, _, .refl, ?_⟩
      conv => whnf
      rw [show setI [] = [] by simp [setI, sortI, dd]]
      exact ⟨rfl, rfl⟩
    · conv => whnf
      refine .inl (.inl ⟨[.d (.list 1 [])], _, ⟨.e 1 .nil, rfl, sort_nil⟩, ?_⟩)
      conv => whnf
      refine .inl (.inr ⟨[.d (.list 1 [])], _, ⟨.e 1 .nil, rfl, compact_nil⟩, ?_⟩)
      conv => whnf
      refine ⟨_, _, .refl, ?_⟩
      conv => whnf
      rw [show setI [] = [] by simp [setI, sortI, dd]]
      exact ⟨rfl, rfl⟩
  | cons x r =>
    have hl : r.length + 1 ≤ 100000 := by simpa using hl
    have hrl := rowsI_len r
    refine conG19 0 rfl rfl ?_
    conv => whnf
    refine .inr (.inl ⟨_, _, ⟨WkL.refl _, clone_cons (rowI x) (rowsI r) (by simp [rowsI]; omega)⟩, fun res s1 h => ?_⟩)
    obtain ⟨c, hc, rfl, rfl⟩ := h
    rw [hrl] at hc ⊢
    conv => whnf
    have hs := sort68 (x :: r) (by simp; omega) c
    refine .inr (.inl ⟨_, _, ⟨WkL.refl _, hs⟩, fun res s1 h => ?_⟩)
    obtain ⟨rfl, rfl⟩ := h
    conv => whnf
    have hsl := sortI_len (x :: r)
    have hcp := compact (sortI (x :: r)) (by rw [hsl]; simp; omega) c (by rw [hsl]; simpa using hc)
    rw [hsl] at hcp
    refine .inr (.inl ⟨_, _, ⟨WkL.refl _, hcp⟩, fun res s1 h => ?_⟩)
    obtain ⟨cur, h1, h2, rfl, rfl⟩ := h
    conv => whnf
    have hdl := dd_len (sortI (x :: r))
    have hsl2 : (sortI (x :: r)).length = r.length + 1 := hsl
    have hcl : (rowsI cur).length = r.length + 1 := by rw [rowsI_len, h1]; rfl
    refine ⟨_, _, GV.freeze 0 rfl (by simp) (by repeat' first | exact trivial | apply And.intro | decide | (simp; done) | omega) (by repeat' first | exact trivial | apply And.intro), ?_⟩
    conv => whnf
    refine ⟨?_, rfl⟩
    refine congrArg (fun q => AV.d (.list 1 q)) ?_
    rw [List.drop_zero]
    show List.take (dd (sortI (x :: r))).length (rowsI cur) = rowsI (dd (sortI (x :: r)))
    conv => rhs; rw [← h2]
    simp [rowsI, List.map_take]
end Go.Proofs.Ytkenimmellonjaa
