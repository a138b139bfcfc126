/- Seat r2: the ledger's copies. -/
import Derived.Test.YtkenimmellonjaaT
import Derived.Test.YtkenimmellonjaaM
import Derived.Test.YtkenimmellonjaaFrD
namespace Go.Proofs.Ytkenimmellonjaa
open Go.Pv Go.RowKit Go.Shelf

structure En where
  fl : Int
  dr : Int
  gn : Int
  bids : List B
  aw : Int
def rowE (e : En) : List DV := [.int .i64 e.fl, .int .i64 e.dr, .int .i64 e.gn, .list 2 (rowsB e.bids), .int .i64 e.aw]
def rowsE (l : List En) : List (List DV) := l.map rowE
theorem rowsE_len (l : List En) : (rowsE l).length = l.length := by simp [rowsE]
theorem rowsB_len (l : List B) : (rowsB l).length = l.length := by simp [rowsB]
theorem cloneD67 (rows : List (List DV)) (hl : rows.length ≤ 100000) : Contract Try.prog G0 67 [.d (.list 1 rows)] [] (fun r t => r = .d (.list 1 rows) ∧ t = []) := by
  refine rung67 0 [] rfl rfl ?_
  cases rows with
  | nil =>
    conv => whnf
    refine ⟨?_, ?_⟩ <;> conv => whnf
    · refine ⟨_, _, GV.wk 2 1, ?_⟩
      conv => whnf
      exact ⟨rfl, rfl⟩
    · refine ⟨⟨by decide, by decide⟩, ?_⟩
      conv => whnf
      refine ⟨_, _, GV.wk 2 1, ?_⟩
      conv => whnf
      exact ⟨rfl, rfl⟩
  | cons r0 rs =>
    have hl : rs.length + 1 ≤ 100000 := by simpa using hl
    conv => whnf
    refine ⟨⟨?_, ?_⟩, ?_⟩
    · show (2 * (rs.length + 1) + 1024) * 8 ≤ 281474976710656; omega
    · show rs.length + 1 ≤ _; omega
    conv => whnf
    intro c hc
    conv => whnf
    refine ⟨_, _, GV.freeze 0 rfl (by simp) (by repeat' first | exact trivial | apply And.intro | decide | (simp; done) | omega) (by repeat' first | exact trivial | apply And.intro), ?_⟩
    conv => whnf
    refine ⟨?_, rfl⟩
    rw [List.drop_zero, List.take_of_length_le (by simp)]
theorem cloneD114 (rows : List (List DV)) (hl : rows.length ≤ 100000) : Contract Try.prog G0 114 [.d (.list 2 rows)] [] (fun r t => r = .d (.list 2 rows) ∧ t = []) := by
  refine rung114 0 [] rfl rfl ?_
  cases rows with
  | nil =>
    conv => whnf
    refine ⟨?_, ?_⟩ <;> conv => whnf
    · refine ⟨_, _, GV.wk 2 2, ?_⟩
      conv => whnf
      exact ⟨rfl, rfl⟩
    · refine ⟨⟨by decide, by decide⟩, ?_⟩
      conv => whnf
      refine ⟨_, _, GV.wk 2 2, ?_⟩
      conv => whnf
      exact ⟨rfl, rfl⟩
  | cons r0 rs =>
    have hl : rs.length + 1 ≤ 100000 := by simpa using hl
    conv => whnf
    refine ⟨⟨?_, ?_⟩, ?_⟩
    · show (2 * (rs.length + 1) + 1024) * 16 ≤ 281474976710656; omega
    · show rs.length + 1 ≤ _; omega
    conv => whnf
    intro c hc
    conv => whnf
    refine ⟨_, _, GV.freeze 0 rfl (by simp) (by repeat' first | exact trivial | apply And.intro | decide | (simp; done) | omega) (by repeat' first | exact trivial | apply And.intro), ?_⟩
    conv => whnf
    refine ⟨?_, rfl⟩
    rw [List.drop_zero, List.take_of_length_le (by simp)]
theorem clone113_nil : Contract Try.prog G0 113 [.d (.list 5 [])] [] (fun r t => (r = .d .nil ∨ r = .d .emp) ∧ t = []) := by
  refine run113 0 [] rfl rfl ?_
  conv => whnf
  refine ⟨?_, ?_⟩ <;> conv => whnf
  · exact ⟨.inl rfl, rfl⟩
  · refine ⟨⟨by decide, by decide⟩, ?_⟩
    conv => whnf
    exact ⟨.inr rfl, rfl⟩
theorem clone113_cons (r0 : List DV) (rs : List (List DV)) (hl : rs.length ≤ 100000) : Contract Try.prog G0 113 [.d (.list 5 (r0 :: rs))] [] (fun r t => ∃ c, rs.length + 1 ≤ c ∧ r = .slc (.g 0) 5 0 (rs.length + 1) c ∧ t = [(0, .row 5 (r0 :: rs))]) := by
  refine run113 0 [] rfl rfl ?_
  conv => whnf
  refine ⟨⟨?_, ?_⟩, ?_⟩
  · show (2 * (rs.length + 1) + 1024) * 56 ≤ 281474976710656; omega
  · show rs.length + 1 ≤ _; omega
  conv => whnf
  intro c hc
  conv => whnf
  exact ⟨c, hc, rfl, rfl⟩
theorem entries_nil : Contract Try.prog G0 83 [.d (.list 5 [])] [] (fun r t => (r = .d .nil ∨ r = .d .emp) ∧ t = []) := by
  refine run83 0 [] rfl rfl ?_
  conv => whnf
  refine .obj rfl ?_
  conv => whnf
  refine ⟨_, _, ⟨WkL.refl _, clone113_nil⟩, fun res s1 h => ?_⟩
  obtain ⟨h, rfl⟩ := h
  rcases h with rfl | rfl
  · conv => whnf
    refine StopG.rounds wk83 [] [0, 3, 8, 9] (fun m env s => m = 0 ∧ env = [(0, .d (.list 5 [])), (3, .d .nil), (8, .d (.int .i64 0)), (9, .d (.int .i64 0))] ∧ s = []) rfl ?_ ?_
    · conv => whnf
      exact ⟨_, rfl, rfl, rfl⟩
    rintro m env s ⟨rfl, rfl, rfl⟩
    conv => whnf
    exact ⟨by simp, rfl⟩
  · conv => whnf
    refine StopG.rounds wk83 [] [0, 3, 8, 9] (fun m env s => m = 0 ∧ env = [(0, .d (.list 5 [])), (3, .d .emp), (8, .d (.int .i64 0)), (9, .d (.int .i64 0))] ∧ s = []) rfl ?_ ?_
    · conv => whnf
      exact ⟨_, rfl, rfl, rfl⟩
    rintro m env s ⟨rfl, rfl, rfl⟩
    conv => whnf
    exact ⟨by simp, rfl⟩
theorem entries_cons (e0 : En) (l0 : List En) (hl : l0.length ≤ 1000) (hb : ∀ e ∈ e0 :: l0, e.bids.length ≤ 100000) : Contract Try.prog G0 83 [.d (.list 5 (rowsE (e0 :: l0)))] [] (fun r t => ∃ c, l0.length + 1 ≤ c ∧ r = .slc (.g 0) 5 0 (l0.length + 1) c ∧ t = [(0, .row 5 (rowsE (e0 :: l0)))]) := by
  have hcl := clone113_cons (rowE e0) (rowsE l0) (by rw [rowsE_len]; omega)
  rw [rowsE_len] at hcl
  refine run83 0 [] rfl rfl ?_
  conv => whnf
  refine .obj rfl ?_
  conv => whnf
  refine ⟨_, _, ⟨WkL.refl _, hcl⟩, fun res s1 h => ?_⟩
  obtain ⟨c, hc, rfl, rfl⟩ := h
  conv => whnf
  rw [show rowE e0 :: rowsE l0 = rowsE (e0 :: l0) from rfl]
  generalize hle : e0 :: l0 = l at hb
  have hll : l.length = l0.length + 1 := by rw [← hle]; rfl
  rw [← hll] at hc ⊢
  have hlen := rowsE_len l
  refine StopG.rounds wk83 [] [3, 8, 9] (fun m env s => ∃ i : Nat, i ≤ l.length ∧ m = l.length - i ∧ env = [(3, .slc (.g 0) 5 0 l.length c), (8, .d (.int .i64 (l.length : Int))), (9, .d (.int .i64 (i : Int)))] ∧ s = [(0, .row 5 (rowsE l))]) rfl ?_ ?_
  · conv => whnf
    exact ⟨_, 0, Nat.zero_le _, rfl, rfl, rfl⟩
  rintro m env s ⟨i, hi, rfl, rfl, rfl⟩
  conv => whnf
  refine bcase_intro (fun h => ?_) (fun h => ?_) <;> conv => whnf
  · have h := lt_of h
    obtain ⟨x, hx, hdrop⟩ := at_i h
    refine ⟨⟨by omega, by omega⟩, ?_⟩
    conv => whnf
    refine ⟨rowE x, row_g hx, rfl, ?_⟩
    conv => whnf
    have hxb := hb x (List.mem_of_getElem? hx)
    refine .data [.d (.list 2 (rowsB x.bids))] _ ⟨WkL.refl _, rfl, cloneD114 _ (by rw [rowsB_len]; exact hxb)⟩ ?_
    conv => whnf
    refine ⟨⟨by omega, by omega⟩, ?_⟩
    conv => whnf
    refine ⟨rowE x, row_g hx, ?_⟩
    conv => whnf
    rw [succ_i h (by omega)]
    refine ⟨_, by omega, i + 1, h, rfl, rfl, ?_⟩
    refine congrArg (fun q => [(0, AB.row 5 q)]) ?_
    rw [show setN (rowE x) 3 [DV.list 2 (rowsB x.bids)] = rowE x from rfl]
    exact (set_row x).trans (by rw [set_same hx]; rfl)
  · exact ⟨c, hc, rfl, rfl⟩
/-- A ring. -/
structure Rg where
  cnt : Int
  fdr : Int
  hop : Int
  mem : List Int
  ents : List En
abbrev rgV (cnt fdr hop : Int) (mem : List Int) (en : AV) : AV := .agg [.d (.int .i64 cnt), .d (.int .i64 fdr), .d (.int .i64 hop), .d (.list 1 (rowsI mem)), en]
theorem own_nil0 (cnt fdr hop : Int) (mem : List Int) (hm : mem.length ≤ 100000) : Contract Try.prog G0 80 [rgV cnt fdr hop mem (.d (.list 5 []))] [] (fun r t => (r = rgV cnt fdr hop mem (.d .nil) ∨ r = rgV cnt fdr hop mem (.d .emp)) ∧ t = []) := by
  refine run80 0 [] rfl rfl ?_
  conv => whnf
  refine .data [.d (.list 1 (rowsI mem))] _ ⟨WkL.refl _, rfl, cloneD67 _ (by rw [rowsI_len]; exact hm)⟩ ?_
  conv => whnf
  refine .obj rfl ?_
  conv => whnf
  refine ⟨_, _, ⟨WkL.refl _, entries_nil⟩, fun res s1 h => ?_⟩
  obtain ⟨h, rfl⟩ := h
  rcases h with rfl | rfl
  · conv => whnf
    exact ⟨.inl rfl, rfl⟩
  · conv => whnf
    exact ⟨.inr rfl, rfl⟩
theorem own_nil (cnt fdr hop : Int) (mem : List Int) (hm : mem.length ≤ 100000) : Contract Try.prog G0 80 [rgV cnt fdr hop mem (.d (.list 5 []))] [] (fun r t => r = rgV cnt fdr hop mem (.d (.list 5 [])) ∧ t = []) :=
  (own_nil0 cnt fdr hop mem hm).weak 5 fun r t h => by
    obtain ⟨h | h, rfl⟩ := h <;> subst h <;> exact ⟨rfl, rfl, rfl, rfl⟩
theorem own_cons (cnt fdr hop : Int) (mem : List Int) (hm : mem.length ≤ 100000) (e0 : En) (l0 : List En) (hl : l0.length ≤ 1000) (hb : ∀ e ∈ e0 :: l0, e.bids.length ≤ 100000) :
    Contract Try.prog G0 80 [rgV cnt fdr hop mem (.d (.list 5 (rowsE (e0 :: l0))))] [] (fun r t => ∃ c, l0.length + 1 ≤ c ∧ r = rgV cnt fdr hop mem (.slc (.g 0) 5 0 (l0.length + 1) c) ∧ t = [(0, .row 5 (rowsE (e0 :: l0)))]) := by
  refine run80 0 [] rfl rfl ?_
  conv => whnf
  refine .data [.d (.list 1 (rowsI mem))] _ ⟨WkL.refl _, rfl, cloneD67 _ (by rw [rowsI_len]; exact hm)⟩ ?_
  conv => whnf
  refine .obj rfl ?_
  conv => whnf
  refine ⟨_, _, ⟨WkL.refl _, entries_cons e0 l0 hl hb⟩, fun res s1 h => ?_⟩
  obtain ⟨c, hc, rfl, rfl⟩ := h
  conv => whnf
  exact ⟨c, hc, rfl, rfl⟩
/-- As data. -/
theorem entriesD (l : List En) (hl : l.length ≤ 1000) (hb : ∀ e ∈ l, e.bids.length ≤ 100000) : Contract Try.prog G0 83 [.d (.list 5 (rowsE l))] [] (fun r t => r = .d (.list 5 (rowsE l)) ∧ t = []) := by
  cases l with
  | nil => exact Contract.as_list (by decide) (entries_nil.mono fun r t ⟨h1, h2⟩ => .inl ⟨h1, rfl, h2⟩)
  | cons e0 l0 =>
    refine Contract.as_list (by decide) ((entries_cons e0 l0 (by simp at hl; omega) hb).mono fun r t ⟨c, h1, h2, h3⟩ => .inr ⟨c, ?_, ?_, h3⟩)
    · rw [rowsE_len]; simpa using h1
    · rw [rowsE_len]; exact h2
/-- Of a list of one's own that is wanted no more. -/
theorem entriesO (l : List En) (hl : l.length ≤ 1000) (hb : ∀ e ∈ l, e.bids.length ≤ 100000) (cap : Nat) : Contract Try.prog G0 83 [.slc (.g 0) 5 0 l.length cap] [(0, .row 5 (rowsE l))] (fun r t => r = .d (.list 5 (rowsE l)) ∧ t = [(0, .dead)]) := by
  have h0 := entriesD l hl hb
  have e : fzL 0 (AB.row 5 (rowsE l)) [.slc (.g 0) 5 0 l.length cap] = [.d (.list 5 ((List.drop 0 (rowsE l)).take l.length))] := rfl
  refine Contract.frz (by simp) ⟨⟨by decide, by rw [rowsE_len]; omega⟩, trivial⟩ rfl ?_
  rw [e, List.drop_zero, List.take_of_length_le (by rw [rowsE_len]; exact Nat.le_refl _)]
  exact h0
def wonE (ms : List Int) (e : En) : Bool := bif bif decide (e.aw < 0) then (leastB e.bids).2 else false then fullB ms e.bids else false
def awE (ms : List Int) (e : En) : En := if wonE ms e then ⟨e.fl, e.dr, e.gn, e.bids, (leastB e.bids).1.1⟩ else e
/-- What is awarded, of some. -/
def wonL (ms : List Int) (l : List En) : List En := (l.filter (wonE ms)).map (awE ms)
abbrev awG (cnt fdr hop : Int) (mem : List Int) (l : List En) : AV := rgV cnt fdr hop mem (.d (.list 5 (rowsE l)))
set_option maxRecDepth 100000 in
theorem award_nil (cnt fdr hop : Int) (mem : List Int) (hm : mem.length ≤ 100000) : Contract Try.prog G0 49 [awG cnt fdr hop mem []] [] (fun r t => r = .tup [awG cnt fdr hop mem [], .d (.list 5 [])] ∧ t = []) := by
  refine run49 0 [] rfl rfl ?_
  conv => whnf
  refine .obj rfl ?_
  conv => whnf
  refine ⟨_, _, ⟨WkL.refl _, own_nil cnt fdr hop mem hm⟩, fun res s1 h => ?_⟩
  obtain ⟨rfl, rfl⟩ := h
  conv => whnf
  refine StopG.rounds wk49 [] [1, 2, 4, 13, 14] (fun m env s => m = 0 ∧ env = [(1, .ref (.g 0) 0), (2, .ref (.g 1) 0), (4, .d .nil), (13, .d (.int .i64 0)), (14, .d (.int .i64 0))] ∧ s = [(0, .cells [.d (.int .i64 cnt), .d (.int .i64 fdr), .d (.int .i64 hop), .d (.list 1 (rowsI mem)), .d (.list 5 [])]), (1, .cells [.d (.int .i64 0), .d (.int .i64 0), .d (.int .i64 0), .d .nil, .d .nil])]) rfl ?_ ?_
  · conv => whnf
    exact ⟨_, rfl, rfl, rfl⟩
  rintro m env s ⟨rfl, rfl, rfl⟩
  conv => whnf
  refine .data [.d (.list 5 [])] _ ⟨.n 5 .nil, rfl, entriesD [] (by simp) (by simp)⟩ ?_
  conv => whnf
  exact ⟨rfl, rfl⟩
end Go.Proofs.Ytkenimmellonjaa
