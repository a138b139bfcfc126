/- Seat r2: copies, the least; a set of what is handed on. -/
import Derived.Test.YtkenimmellonjaaC
import Derived.Test.YtkenimmellonjaaFrD
namespace Go.Proofs.Ytkenimmellonjaa
open Go.Pv Go.RowKit Go.Shelf

theorem ints43 (l : List Int) (hl : l.length ≤ 1000000) : Contract Try.prog G0 43 [.d (.list 1 (rowsI l))] [] (fun r t => ∃ c, l.length ≤ c ∧ r = .slc (.g 0) 1 0 l.length c ∧ t = [(0, .row 1 (rowsI l))]) := by
  have hlen := rowsI_len l
  refine conG43 0 rfl rfl ?_
  conv => whnf
  refine ⟨0, l.length, ⟨rfl, by rw [hlen], Nat.zero_le _, by show l.length * 8 ≤ _; omega, by omega⟩, ?_⟩
  conv => whnf
  refine V.rounds (fun m env s => ∃ i c : Nat, i ≤ l.length ∧ m = l.length - i ∧ i ≤ c ∧
    env = [(0, .d (.list 1 (rowsI l))), (2, .d .nil), (3, .slc (.g 0) 1 0 i c), (4, .d (.int .i64 (i : Int))), (11, .undef)] ∧ s = [(0, .row 1 (rowsI (l.take i)))])
    ⟨_, _, GV.drop [0, 2, 3, 4], _, 0, l.length, Nat.zero_le _, rfl, Nat.zero_le _, rfl, rfl⟩ ?_
  rintro m env s ⟨i, c, hi, rfl, hic, rfl, rfl⟩
  refine V.of (kt := kt43) tabOK mixed (by kernel_rfl) ?_
  conv => whnf
  refine bcase_intro (fun h => ?_) (fun h => ?_) <;> conv => whnf
  · have h := lt_of h
    rw [hlen] at h
    obtain ⟨x, hx, hdrop⟩ := at_i h
    refine ⟨rowI x, ⟨by omega, row_i hx⟩, ?_⟩
    conv => whnf
    refine ⟨by simp [rowsI]; omega, ⟨?_, ?_⟩, ?_⟩
    · show (2 * (i + 1) + 1024) * 8 ≤ 281474976710656; omega
    · show i + 1 ≤ _; omega
    conv => whnf
    intro c2 hc2
    conv => whnf
    refine ⟨_, _, GV.trans (GV.gather [1] rfl rfl rfl) (GV.drop [0, 2, 3, 4]), _, by omega, i + 1, c2, h, rfl, hc2, ?_, ?_⟩
    · rw [← succ_i h (by omega)]; rfl
    · refine congrArg (fun q => [(0, AB.row 1 q)]) ?_
      rw [List.take_of_length_le (by simp [rowsI]; omega), List.take_add_one, hx]
      simp [rowsI, rowI]
  · have h := ge_of h
    rw [hlen] at h
    have : i = l.length := by omega
    subst this
    refine ⟨_, _, .refl, ?_⟩
    conv => whnf
    refine ⟨c, hic, rfl, ?_⟩
    rw [List.take_of_length_le (Nat.le_refl _)]
/-- Set, told of an object that is wanted no more. -/
theorem set19_own (l : List Int) (hl : l.length ≤ 100000) (cap : Nat) : Contract Try.prog G0 19 [.slc (.g 0) 1 0 l.length cap] [(0, .row 1 (rowsI l))] (fun r t => r = .d (.list 1 (rowsI (setI l))) ∧ t = [(0, .dead)]) := by
  have h0 := set19 l hl
  have e : fzL 0 (AB.row 1 (rowsI l)) [.slc (.g 0) 1 0 l.length cap] = [.d (.list 1 ((List.drop 0 (rowsI l)).take l.length))] := rfl
  refine Contract.frz (by simp) ⟨⟨by decide, by rw [rowsI_len]; omega⟩, trivial⟩ rfl ?_
  rw [e, List.drop_zero, List.take_of_length_le (by rw [rowsI_len]; exact Nat.le_refl _)]
  exact h0
def minI (x : Int) : List Int → Int
  | [] => x
  | y :: r => minI (if y < x then y else x) r
theorem min77 (x0 : Int) (r : List Int) (hl : r.length ≤ 1000000) : Contract Try.prog G0 77 [.d (.list 1 (rowsI (x0 :: r)))] [] (fun q t => q = .d (.int .i64 (minI x0 r)) ∧ t = []) := by
  have hlen := rowsI_len (x0 :: r)
  refine con77 0 rfl rfl ?_
  conv => whnf
  refine ⟨rowI x0, ⟨by omega, rfl⟩, ?_⟩
  conv => whnf
  generalize hl2 : x0 :: r = l at hlen
  have hll : l.length = r.length + 1 := by rw [← hl2]; rfl
  refine V.rounds (fun m env s => ∃ (i : Nat) (b : Int), 0 < i ∧ i ≤ l.length ∧ m = l.length - i ∧ minI b (l.drop i) = minI x0 r ∧
    env = [(0, .d (.list 1 (rowsI l))), (2, .d (.int .i64 0)), (3, .d (.int .i64 b)), (4, .d (.int .i64 (i : Int))), (7, .undef), (15, .undef)] ∧ s = [])
    ⟨_, _, GV.drop [0, 2, 3, 4], _, 1, x0, by omega, by omega, rfl, by rw [← hl2]; rfl, rfl, rfl⟩ ?_
  rintro m env s ⟨i, b, hi0, hi, rfl, hb, rfl, rfl⟩
  refine V.of (kt := kt77) tabOK mixed (by kernel_rfl) ?_
  conv => whnf
  refine bcase_intro (fun h => ?_) (fun h => ?_) <;> conv => whnf
  · have h := lt_of h
    rw [hlen] at h
    obtain ⟨x, hx, hdrop⟩ := at_i h
    refine ⟨rowI x, ⟨by omega, row_i hx⟩, ?_⟩
    conv => whnf
    rw [hdrop, minI] at hb
    rw [succ_i h (by omega)]
    exact ⟨_, _, GV.drop [0, 2, 3, 4], _, by omega, i + 1, _, by omega, h, rfl, hb, rfl, rfl⟩
  · have h := ge_of h
    rw [hlen] at h
    rw [List.drop_eq_nil_of_le h, minI] at hb
    exact ⟨rd_int hb, rfl⟩
/-- The least, and whether there is one. -/
def leastI : List Int → Int × Bool
  | [] => (0, false)
  | x :: r => (minI x r, true)
theorem least42 (l : List Int) (hl : l.length ≤ 1000000) : Contract Try.prog G0 42 [.d (.list 1 (rowsI l))] [] (fun q t => q = .tup [.d (.int .i64 (leastI l).1), .d (.bool (leastI l).2)] ∧ t = []) := by
  cases l with
  | nil =>
    refine con42 0 rfl rfl ?_
    conv => whnf
    exact ⟨rfl, rfl⟩
  | cons x r =>
    have hl : r.length + 1 ≤ 1000000 := by simpa using hl
    refine con42 0 rfl rfl ?_
    conv => whnf
    refine .inl (.inl ⟨[.d (.list 1 (rowsI (x :: r)))], _, ⟨.refl _, rfl, min77 x r (by omega)⟩, ?_⟩)
    conv => whnf
    exact ⟨rfl, rfl⟩
theorem minI_le : ∀ (r : List Int) (x y : Int), (y = x ∨ y ∈ r) → minI x r ≤ y
  | [], x, y, h => by
    rcases h with rfl | h
    · exact Int.le_refl _
    · cases h
  | z :: r, x, y, h => by
    simp only [minI]
    rcases h with rfl | h
    · have := minI_le r (if z < y then z else y) _ (.inl rfl)
      split at this <;> rename_i hz <;> simp only [hz, if_true, if_false] <;> omega
    · rcases List.mem_cons.1 h with rfl | h
      · have := minI_le r (if y < x then y else x) _ (.inl rfl)
        split at this <;> rename_i hz <;> simp only [hz, if_true, if_false] <;> omega
      · exact minI_le r _ y (.inr h)
theorem minI_mem : ∀ (r : List Int) (x : Int), minI x r = x ∨ minI x r ∈ r
  | [], x => .inl rfl
  | z :: r, x => by
    simp only [minI]
    rcases minI_mem r (if z < x then z else x) with h | h
    · rw [h]
      split
      · exact .inr (by simp)
      · exact .inl rfl
    · exact .inr (by simp [h])
end Go.Proofs.Ytkenimmellonjaa
