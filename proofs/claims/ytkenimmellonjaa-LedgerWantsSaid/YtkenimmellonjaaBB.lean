/- Seat r2: a bid. -/
import Derived.Test.YtkenimmellonjaaBA
namespace Go.Proofs.Ytkenimmellonjaa
open Go.Pv Go.RowKit Go.Shelf
def bidEn (b : B) (e : En) : En := ⟨e.fl, e.dr, e.gn, (putB e.bids b).1, e.aw⟩
/-- A bid that will not do. -/
def noBid (mem : List Int) (b : B) (x : En) : Bool := bif bif bif decide (x.aw ≥ 0) then true else !(mem.any fun y => b.1 == y) then true else decide (b.2 < 0) then true else decide (b.2 > 1048576)
def bidL (mem : List Int) (b : B) (c : Int × Int) (l : List En) : List En × Bool := match idxFrom (isC c) l 0 with
  | .ofNat k => match l[k]? with
    | some x => bif noBid mem b x then (l, false) else (l.set k (bidEn b x), (putB x.bids b).2)
    | none => (l, false)
  | .negSucc _ => (l, false)
set_option maxRecDepth 100000 in
theorem bid_nil (cnt fdr hop : Int) (mem : List Int) (hm : mem.length ≤ 100000) (b : B) (c : Int × Int) : Contract Try.prog G0 61 [awG cnt fdr hop mem [], bidv b, calV c.1 c.2] [] (fun r t => r = .tup [awG cnt fdr hop mem [], .d (.bool false)] ∧ t = []) := by
  refine run61 0 [] rfl rfl ?_
  conv => whnf
  refine .obj rfl ?_
  conv => whnf
  refine ⟨_, _, ⟨WkL.refl _, own_nil cnt fdr hop mem hm⟩, fun res s1 h => ?_⟩
  obtain ⟨rfl, rfl⟩ := h
  conv => whnf
  refine .scal [awG cnt fdr hop mem [], calV c.1 c.2] (.d (.int .i64 (-1))) ⟨.refl _, rfl, at87 cnt fdr hop mem [] (by simp) c.1 c.2⟩ ?_
  conv => whnf
  refine ⟨rowE ⟨0, 0, 0, [], 0⟩, (fun hg => by simp [HG, lit, rfind] at hg), ?_⟩
  conv => whnf
  refine .scal [.d (.list 1 (rowsI mem)), .d (.int .i64 b.1)] _ (fun _ => ⟨.refl _, rfl, has mem (by omega) b.1⟩) ?_
  conv => whnf
  exact ⟨rfl, rfl⟩
set_option maxRecDepth 100000 in
theorem bid_cons (cnt fdr hop : Int) (mem : List Int) (hm : mem.length ≤ 100000) (e0 : En) (l0 : List En) (hl : l0.length + 1 ≤ 1000) (hb : ∀ e ∈ e0 :: l0, e.bids.length ≤ 10000) (b : B) (c : Int × Int) :
    Contract Try.prog G0 61 [awG cnt fdr hop mem (e0 :: l0), bidv b, calV c.1 c.2] [] (fun r t => ∃ cap, l0.length + 1 ≤ cap ∧ r = .tup [rgV cnt fdr hop mem (.slc (.g 0) 5 0 (l0.length + 1) cap), .d (.bool (bidL mem b c (e0 :: l0)).2)] ∧ t = [(0, .row 5 (rowsE (bidL mem b c (e0 :: l0)).1))]) := by
  refine run61 0 [] rfl rfl ?_
  conv => whnf
  refine .obj rfl ?_
  conv => whnf
  refine ⟨_, _, ⟨WkL.refl _, own_cons cnt fdr hop mem hm e0 l0 (by omega) fun e he => Nat.le_trans (hb e he) (by decide)⟩, fun res s1 h => ?_⟩
  obtain ⟨cap, hc, rfl, rfl⟩ := h
  generalize hle : e0 :: l0 = l at hb
  have hll : l.length = l0.length + 1 := by rw [← hle]; rfl
  rw [← hll] at hc ⊢
  have hrl := rowsE_len l
  have hlend : Contract Try.prog G0 87 [awG cnt fdr hop mem l, calV c.1 c.2] [] (fun r t => r = .d (.int .i64 (idxFrom (isC c) l 0)) ∧ t = []) := at87 cnt fdr hop mem l (by omega) c.1 c.2
  rw [show awG cnt fdr hop mem l = rgV cnt fdr hop mem (.d (.list 5 ((List.drop 0 (rowsE l)).take l.length))) by rw [List.drop_zero, List.take_of_length_le (by omega)]] at hlend
  conv => whnf
  rcases idx_cases0 (isC c) l with ⟨h1, _⟩ | ⟨k, x, h1, hx, _⟩
  · rw [h1] at hlend
    have hbl : bidL mem b c l = (l, false) := by unfold bidL; rw [h1]; rfl
    rw [hbl]
    refine .scal [rgV cnt fdr hop mem (.d (.list 5 ((List.drop 0 (rowsE l)).take l.length))), calV c.1 c.2] (.d (.int .i64 (-1))) ⟨.fz 4 _ rfl (by simp) (by repeat' first | exact trivial | apply And.intro | decide | (simp; done) | omega) (.refl _), rfl, hlend⟩ ?_
    conv => whnf
    refine ⟨(fun hg => by simp [HG, lit, rfind] at hg), ?_⟩
    conv => whnf
    refine ⟨rowE ⟨0, 0, 0, [], 0⟩, (fun hg => by simp [HG, lit, rfind] at hg), rfl, ?_⟩
    conv => whnf
    refine .scal [.d (.list 1 (rowsI mem)), .d (.int .i64 b.1)] _ (fun _ => ⟨.refl _, rfl, has mem (by omega) b.1⟩) ?_
    conv => whnf
    exact ⟨cap, hc, rfl, rfl⟩
  · rw [h1] at hlend
    have hil : k < l.length := (List.getElem?_eq_some_iff.1 hx).1
    have hxb := hb x (List.mem_of_getElem? hx)
    have hbl : bidL mem b c l = bif noBid mem b x then (l, false) else (l.set k (bidEn b x), (putB x.bids b).2) := by
      unfold bidL; rw [h1]; show (match l[k]? with | some x => _ | none => _) = _; rw [hx]
    rw [hbl]
    refine .scal [rgV cnt fdr hop mem (.d (.list 5 ((List.drop 0 (rowsE l)).take l.length))), calV c.1 c.2] (.d (.int .i64 (k : Int))) ⟨.fz 4 _ rfl (by simp) (by repeat' first | exact trivial | apply And.intro | decide | (simp; done) | omega) (.refl _), rfl, hlend⟩ ?_
    conv => whnf
    refine ⟨fun _ => ⟨by omega, by omega⟩, ?_⟩
    conv => whnf
    refine ⟨rowE x, fun _ => row_g hx, rfl, ?_⟩
    conv => whnf
    refine .scal [.d (.list 1 (rowsI mem)), .d (.int .i64 b.1)] _ (fun _ => ⟨.refl _, rfl, has mem (by omega) b.1⟩) ?_
    conv => whnf
    refine bcase_intro (fun hg => ?_) (fun hg => ?_) <;> conv => whnf
    · have hno : noBid mem b x = true := by
        rw [show decide ((k : Int) < 0) = false from decide_eq_false (by omega)] at hg
        exact hg
      rw [hno]
      exact ⟨cap, hc, rfl, rfl⟩
    have hno : noBid mem b x = false := by
      rw [show decide ((k : Int) < 0) = false from decide_eq_false (by omega)] at hg
      exact hg
    rw [hno]
    refine ⟨⟨by omega, by omega⟩, ?_⟩
    conv => whnf
    refine ⟨rowE x, row_g hx, rfl, ?_⟩
    conv => whnf
    refine .data [.d (.list 2 (rowsB x.bids)), bidv b] _ ⟨WkL.refl _, rfl, put x.bids hxb b⟩ ?_
    conv => whnf
    refine ⟨⟨by omega, by omega⟩, ?_⟩
    conv => whnf
    refine ⟨rowE x, row_g hx, ?_⟩
    conv => whnf
    exact ⟨cap, hc, rfl, congrArg (fun q => [(0, AB.row 5 q)]) (set_row (bidEn b x))⟩
theorem bidL_len (mem : List Int) (b : B) (c : Int × Int) (l : List En) : (bidL mem b c l).1.length = l.length := by
  unfold bidL
  split
  · split
    · cases noBid mem b _ <;> simp
    · rfl
  · rfl
/-- As data. -/
theorem bid (cnt fdr hop : Int) (mem : List Int) (hm : mem.length ≤ 100000) (l : List En) (hl : l.length ≤ 1000) (hb : ∀ e ∈ l, e.bids.length ≤ 10000) (b : B) (c : Int × Int) :
    Contract Try.prog G0 61 [awG cnt fdr hop mem l, bidv b, calV c.1 c.2] [] (fun r t => r = .tup [awG cnt fdr hop mem (bidL mem b c l).1, .d (.bool (bidL mem b c l).2)] ∧ t = []) := by
  cases l with
  | nil => exact bid_nil cnt fdr hop mem hm b c
  | cons e0 l0 =>
    refine (bid_cons cnt fdr hop mem hm e0 l0 (by simpa using hl) hb b c).told fun r t hr => ?_
    obtain ⟨cap, hc, rfl, rfl⟩ := hr
    refine ⟨.tup [awG cnt fdr hop mem (bidL mem b c (e0 :: l0)).1, .d (.bool (bidL mem b c (e0 :: l0)).2)], ?_, rfl, rfl, rfl⟩
    have hrl := rowsE_len (bidL mem b c (e0 :: l0)).1
    have hrl2 := bidL_len mem b c (e0 :: l0)
    have hrl3 : (e0 :: l0).length = l0.length + 1 := rfl
    refine GV.trans (GV.freeze 0 rfl (by simp) (by repeat' first | exact trivial | apply And.intro | decide | (simp; done) | omega) (by repeat' first | exact trivial | apply And.intro)) (GV.tidied [0] ?_)
    conv => whnf
    rw [List.drop_zero, List.take_of_length_le (by omega)]
    exact ⟨rfl, rfl⟩
end Go.Proofs.Ytkenimmellonjaa
