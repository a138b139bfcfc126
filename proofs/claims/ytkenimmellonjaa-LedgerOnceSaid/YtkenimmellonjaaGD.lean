/- The seat's texts, part 4: what single functions of the program compute; no statement of its own. -/
import Derived.Test.YtkenimmellonjaaGB
import Derived.Test.YtkenimmellonjaaGC
import Derived.Test.YtkenimmellonjaaGA
import Derived.Test.YtkenimmellonjaaFrD
import Derived.Test.YtkenimmellonjaaTab
/- Seat r2: ring by ring: what stays. -/
namespace Go.Proofs.Ytkenimmellonjaa
open Go.Pv Go.RowKit Go.Shelf
/-- What was awarded stands where it stood. -/
def Stays (l l' : List En) : Prop := ∀ (i : Nat) (e : En), l[i]? = some e → e.aw ≥ 0 → l'[i]? = some e
theorem Stays.refl (l : List En) : Stays l l := fun _ _ h _ => h
theorem Stays.trans {a b c : List En} (h : Stays a b) (h2 : Stays b c) : Stays a c := fun i e he ha => h2 i e (h i e he ha) ha
structure OnceI (mem : List Int) (lit : List Kt) (l : List En) : Prop where
  key : ∀ e ∈ l, keyE e ∈ lit
  ap : Apart l
  bid : ∀ e ∈ l, BidOK mem e
  len : l.length ≤ lit.length
/-- Each call is on it. -/
def OnceH (lit : List Kt) (l : List En) : Prop := ∀ k ∈ lit, ∃ e ∈ l, callE e = callK k
theorem once_stay {mem : List Int} {lit : List Kt} {l : List En} (h : OnceI mem lit l) : stayL lit l = l := by
  unfold stayL
  rw [List.filter_eq_self]
  exact fun e he => (litE_iff _ e).2 (h.key e he)
theorem once_next {mem : List Int} {lit : List Kt} {l : List En} (hn : lit.length ≤ 100) (h : OnceI mem lit l) (hh : l = [] ∨ OnceH lit l) :
    OnceI mem lit (addL l (sortK cK lit)) ∧ OnceH lit (addL l (sortK cK lit)) ∧ Stays l (addL l (sortK cK lit)) := by
  have hst := sortK_stb cK_ord lit
  have hmem : ∀ x, x ∈ sortK cK lit ↔ x ∈ lit := fun x => hst.mem cK_ord x
  have hlen : (sortK cK lit).length = lit.length := sortK_len cK lit
  generalize sortK cK lit = ks at hmem hlen
  rcases hh with rfl | hh
  · refine ⟨⟨fun e he => ?_, addL_apart ks (List.Pairwise.nil), fun e he => ?_, ?_⟩, fun k hk => addL_has ks (by rw [List.length_nil]; omega) k ((hmem k).2 hk), fun i e he _ => by simp at he⟩
    · rcases addL_mem ks he with h1 | ⟨k, hk, rfl⟩
      · cases h1
      · exact (hmem k).1 hk
    · rcases addL_mem ks he with h1 | ⟨k, hk, rfl⟩
      · cases h1
      · exact ⟨fun b hb => (by cases hb), List.nodup_nil⟩
    · have := addL_len ks []
      rw [List.length_nil] at this
      omega
  · rw [addL_same fun k hk => hh k ((hmem k).1 hk)]
    exact ⟨h, hh, Stays.refl l⟩
theorem once_bid {mem : List Int} {lit : List Kt} {l : List En} {car : Int} {c : Int × Int} {rest : List (Int × Int)} {k : Nat} (hk : k ≤ 1000) (hc : car ∈ mem) (h : OnceI mem lit l) (hh : OnceH lit l) (hw : wantL mem car l = c :: rest) :
    (bidL mem (car, (k : Int)) c l).2 = true ∧ (bidL mem (car, (k : Int)) c (bidL mem (car, (k : Int)) c l).1).2 = false ∧ wantL mem car (bidL mem (car, (k : Int)) c l).1 = rest ∧
      OnceI mem lit (bidL mem (car, (k : Int)) c l).1 ∧ OnceH lit (bidL mem (car, (k : Int)) c l).1 ∧ Stays l (bidL mem (car, (k : Int)) c l).1 ∧ (bidL mem (car, (k : Int)) c l).1.length = l.length := by
  obtain ⟨pre, x, post, rfl, hon, hxc, hbl, hwr, hbs, hag⟩ := bid_more hk h.ap hw
  unfold onB at hon
  obtain ⟨h1, haw⟩ := bor0 hon
  obtain ⟨_, hbid⟩ := bor0 h1
  have haw : x.aw < 0 := by have := of_decide_eq_false haw; omega
  rw [hbl]
  have hcall : (pre ++ bidEn (car, (k : Int)) x :: post).map callE = (pre ++ x :: post).map callE := by simp [bidEn, callE]
  refine ⟨rfl, hag, hwr, ⟨fun e he => ?_, ?_, fun e he => ?_, ?_⟩, fun q hq => ?_, (Keeps.put haw).2, by simp⟩
  · rcases List.mem_append.1 he with h2 | h2
    · exact h.key e (List.mem_append_left _ h2)
    · rcases List.mem_cons.1 h2 with rfl | h2
      · exact h.key x (List.mem_append_right _ (List.mem_cons_self ..))
      · exact h.key e (List.mem_append_right _ (List.mem_cons_of_mem _ h2))
  · show ((pre ++ bidEn (car, (k : Int)) x :: post).map callE).Nodup
    rw [hcall]; exact h.ap
  · rcases List.mem_append.1 he with h2 | h2
    · exact h.bid e (List.mem_append_left _ h2)
    · rcases List.mem_cons.1 h2 with rfl | h2
      · exact (h.bid x (List.mem_append_right _ (List.mem_cons_self ..))).put hc hbid hbs
      · exact h.bid e (List.mem_append_right _ (List.mem_cons_of_mem _ h2))
  · have := h.len
    simp only [List.length_append, List.length_cons] at this ⊢
    exact this
  · obtain ⟨e, he, hce⟩ := hh q hq
    have : callE e ∈ (pre ++ bidEn (car, (k : Int)) x :: post).map callE := by rw [hcall]; exact List.mem_map.2 ⟨e, he, rfl⟩
    obtain ⟨e2, he2, h3⟩ := List.mem_map.1 this
    exact ⟨e2, he2, h3.trans hce⟩
theorem once_award {mem : List Int} {lit : List Kt} {l : List En} (h : OnceI mem lit l) (hh : OnceH lit l) : OnceI mem lit (l.map (awE mem)) ∧ OnceH lit (l.map (awE mem)) ∧ Stays l (l.map (awE mem)) := by
  have hcall : ∀ e, callE (awE mem e) = callE e := fun e => by
    have := key_awE mem e
    have e1 : (awE mem e).fl = e.fl := congrArg Prod.fst this
    have e2 : (awE mem e).dr = e.dr := congrArg (fun q => q.2.1) this
    unfold callE; rw [e1, e2]
  refine ⟨⟨fun e he => ?_, ?_, fun e he => ?_, ?_⟩, fun k hk => ?_, (Keeps.award mem l).2⟩
  · obtain ⟨x, hx, rfl⟩ := List.mem_map.1 he
    rw [key_awE]; exact h.key x hx
  · unfold Apart
    rw [List.map_map, show callE ∘ awE mem = callE from funext hcall]
    exact h.ap
  · obtain ⟨x, hx, rfl⟩ := List.mem_map.1 he
    have hb := h.bid x hx
    exact ⟨by rw [awE_bids]; exact hb.sub, by rw [awE_bids]; exact hb.nd⟩
  · rw [List.length_map]; exact h.len
  · obtain ⟨e, he, hc⟩ := hh k hk
    exact ⟨awE mem e, List.mem_map.2 ⟨e, he, rfl⟩, (hcall e).trans hc⟩
end Go.Proofs.Ytkenimmellonjaa
/- Seat r2: an entry put among entries of one's own. -/
namespace Go.Proofs.Ytkenimmellonjaa
open Go.Pv Go.RowKit Go.Shelf
theorem ov122 (x y : Value) (w : World) : (callFunc 122 #[x, y]).run Try.prog w = ((Extern.SlicesOverlaps.overlaps #[63, 63] #[4] #[x, y]).run Try.prog w).andThen fun v w' => .ok (.value v) w' := by
  rw [run_callFunc_extern Try.func122 (by kernel_rfl) (by kernel_rfl) (by kernel_rfl) (e := Extern.SlicesOverlaps.overlaps #[63, 63] #[4]) (by kernel_rfl)]
set_option maxRecDepth 100000 in
theorem insertE_own (rows : List (List DV)) (hl : rows.length ≤ 100000) (k : Nat) (hk : k ≤ rows.length) (c : Nat) (hc : rows.length ≤ c) (x : List DV) :
    Contract Try.prog G0 98 [.slc (.g 0) 5 0 rows.length c, .d (.int .i64 k), .d (.list 5 [x])] [(0, .row 5 rows)] (fun r t => (∃ c', rows.length + 1 ≤ c' ∧ r = .slc (.g 0) 5 0 (rows.length + 1) c' ∧ t = [(0, .row 5 (rows.take k ++ x :: rows.drop k))]) ∨ ∃ c' old, rows.length + 1 ≤ c' ∧ (old = .dead ∨ old = .row 5 rows) ∧ r = .slc (.g 1) 5 0 (rows.length + 1) c' ∧ t = [(0, old), (1, .row 5 (rows.take k ++ x :: rows.drop k))]) := by
  refine run98 1 [] rfl rfl ?_
  conv => whnf
  refine ⟨⟨by omega, by omega, by omega⟩, ?_⟩
  conv => whnf
  have hw1 : IntKind.i64.wrap ((rows.length : Int) + (([x] : List (List DV)).length : Int)) = ((rows.length + 1 : Nat) : Int) := by
    rw [wrap_id (by simp; omega) (by simp; omega)]
    simp
  have hw2 : IntKind.i64.wrap ((k : Int) + (([x] : List (List DV)).length : Int)) = ((k + 1 : Nat) : Int) := by
    rw [wrap_id (by simp; omega) (by simp; omega)]
    simp
  refine bcase_intro (fun h => ?_) (fun h => ?_) <;> conv => whnf
  · have h : k = rows.length := by simp at h; omega
    subst h
    refine ⟨Nat.le_refl _, ⟨?_, ?_⟩, ?_⟩
    · show (2 * (rows.length + 1) + 1024) * 56 ≤ 281474976710656; omega
    · show rows.length + 1 ≤ _; omega
    conv => whnf
    intro c' hc'
    conv => whnf
    refine .inr ⟨c', .dead, hc', .inl rfl, rfl, ?_⟩
    rw [List.take_length, List.drop_length]
  · have h : k < rows.length := by simp at h; omega
    rw [hw1]
    refine bcase_intro (fun h2 => ?_) (fun h2 => ?_) <;> conv => whnf
    · have h2 : c < rows.length + 1 := by simp at h2; omega
      refine ⟨⟨by omega, by omega, by omega⟩, ?_⟩
      conv => whnf
      rw [hw1]
      simp -iota only [Int.toNat_natCast, Int.toNat_zero, Nat.sub_zero, Nat.zero_add]
      have hkn : k + (rows.length + 1 - k) = rows.length + 1 := by omega
      refine ⟨rows.length + 1 - k, ⟨?_, by omega, by omega, by omega, ?_, by omega⟩, ?_⟩
      · rw [wrap_id (by omega) (by omega)]; omega
      · show (2 * _ + 1024) * 56 ≤ 281474976710656; omega
      rw [hkn]
      conv => whnf
      intro c1 hc1
      conv => whnf
      refine ⟨⟨by omega, by omega, by omega⟩, ?_⟩
      conv => whnf
      simp -iota only [Int.toNat_natCast, Nat.zero_add]
      refine ⟨by simp; omega, ?_⟩
      conv => whnf
      refine ⟨⟨by omega, by rw [hw2]; omega, by omega⟩, ?_⟩
      conv => whnf
      refine ⟨⟨by omega, by omega, by omega⟩, ?_⟩
      conv => whnf
      rw [hw2]
      simp -iota only [Int.toNat_natCast, Nat.zero_add]
      refine ⟨by simp [splice]; omega, ?_⟩
      conv => whnf
      refine ⟨by omega, ?_⟩
      conv => whnf
      refine .inr ⟨c1, .row 5 rows, by omega, .inr rfl, rfl, ?_⟩
      refine congrArg (fun q => [(0, AB.row 5 rows), (1, AB.row 5 q)]) ?_
      have := ins_a rows k h x (min (rows.length - k) (rows.length + 1 - (k + 1))) (by omega) (List.replicate (rows.length + 1 - k) ti72.zero) (by simp)
      refine Eq.trans ?_ this
      have e1 : ([x] : List (List DV)).take (rows.length + 1 - k) = [x] := List.take_of_length_le (by simp; try omega)
      have e2 : ((rows.drop k).take (min (rows.length - k) (rows.length + 1 - (k + 1)))).length = min (rows.length - k) (rows.length + 1 - (k + 1)) := by simp; try omega
      refine (List.take_of_length_le (i := rows.length + 1) ?_).symm.trans ?_
      · simp [splice, e1]; omega
      · simp only [splice, e1, List.length_singleton, e2, List.drop_zero]
    · have h2 : rows.length + 1 ≤ c := by simp at h2; omega
      refine ⟨⟨by omega, by rw [hw1]; omega, by rw [hw1]; omega⟩, ?_⟩
      conv => whnf
      refine ⟨⟨by rw [hw2]; omega, by rw [hw1, hw2]; omega, by rw [hw1]; omega⟩, ?_⟩
      conv => whnf
      rw [hw1, hw2]
      simp -iota only [Int.toNat_natCast, Int.toNat_zero, Nat.sub_zero, Nat.zero_add]
      refine .raw rfl ?_
      have q1 : T 63 = some ti63 := by kernel_rfl
      have q2 : T 72 = some ti72 := by kernel_rfl
      refine ej_overlaps (f := 122) (c := .func 122) (tys := #[63, 63]) (t := 63) (tr := 4) (e := 72) (ti := ti63) (te := ti72) (x := .tmp 61) (y := .tmp 66) (sz := 5) (rows := [x]) (id := 0) (off := k + 1) (len := rows.length + 1 - (k + 1)) (cap := c - (k + 1)) (old := rows) tabOK q1 ?_ q2 ov122 ?_ ?_ ?_ ?_ ?_ ?_ ?_
      · rfl
      · rfl
      · rfl
      · rfl
      · decide
      · rfl
      · rfl
      conv => whnf
      refine ⟨⟨by rw [hw2]; omega, by rw [hw2]; omega, by omega⟩, ?_⟩
      conv => whnf
      refine ⟨⟨by omega, by omega, by omega⟩, ?_⟩
      conv => whnf
      rw [hw2]
      simp -iota only [Int.toNat_natCast, Nat.zero_add]
      refine ⟨by omega, ?_⟩
      conv => whnf
      refine ⟨by omega, ?_⟩
      conv => whnf
      refine ⟨⟨by omega, by omega, by omega⟩, ?_⟩
      conv => whnf
      simp -iota only [Int.toNat_natCast, Nat.zero_add]
      refine ⟨by simp [splice]; omega, ?_⟩
      conv => whnf
      have e2 : ((rows.drop k).take (min (rows.length + 1 - k) (rows.length + 1 - (k + 1)))).length = rows.length - k := by simp; omega
      have e1 : ([x] : List (List DV)).take (rows.length + 1 - k) = [x] := List.take_of_length_le (by simp; try omega)
      refine .inl ⟨c, h2, rfl, ?_⟩
      refine congrArg (fun q => [(0, AB.row 5 q)]) ?_
      refine (List.take_of_length_le (i := rows.length + 1) ?_).symm.trans ?_
      · simp [splice, e1]; omega
      · rw [← ins_b rows k h x (min (rows.length + 1 - k) (rows.length + 1 - (k + 1))) (by omega)]
        simp only [splice, e1, List.length_singleton, e2]
set_option maxRecDepth 100000 in
theorem insertE_none (e : DV) (he : e = .nil ∨ e = .emp) (x : List DV) :
    Contract Try.prog G0 98 [.d e, .d (.int .i64 0), .d (.list 5 [x])] [] (fun r t => ∃ c', 1 ≤ c' ∧ r = .slc (.g 0) 5 0 1 c' ∧ t = [(0, .row 5 [x])]) := by
  refine run98 0 [] rfl rfl ?_
  rcases he with rfl | rfl
  all_goals
    conv => whnf
    refine ⟨⟨by omega, by omega⟩, ?_⟩
    conv => whnf
    refine ⟨⟨?_, ?_⟩, ?_⟩
    · show (2 * 1 + 1024) * 56 ≤ 281474976710656; omega
    · show 1 ≤ _; omega
    conv => whnf
    intro c hc
    conv => whnf
    exact ⟨c, hc, rfl, rfl⟩
end Go.Proofs.Ytkenimmellonjaa
/- Seat r2: what is lit is added. -/
namespace Go.Proofs.Ytkenimmellonjaa
open Go.Pv Go.RowKit Go.Shelf
set_option maxRecDepth 100000 in
theorem sortS (l : List Kt) (N : Nat) (hN : l.length = N) (hl : N ≤ 10000) (cap : Nat) : Contract Try.prog G0 92 [.slc (.g 0) 3 0 N cap, .fn 93 []] [(0, .row 3 (rowsK l))] (fun r t => r = .tup [] ∧ t = [(0, .row 3 (rowsK (sortK cK l)))]) :=
  (sort92 l N hN hl cap).mono fun r t ⟨o, h1, h2, h3, h4⟩ => by
    have := Srt.uniq cK_ord (sortK_srt cK_ord l) h2 fun k => (h3 k).trans (sortK_stb cK_ord l k).symm
    exact ⟨h1, by rw [h4, this]⟩
set_option maxRecDepth 100000 in
theorem sortS_none (e : DV) (he : e = .nil ∨ e = .emp) : Contract Try.prog G0 92 [.d e, .fn 93 []] [] (fun r t => r = .tup [] ∧ t = []) := by
  have h142 : ∀ e : DV, e = .nil ∨ e = .emp → Contract Try.prog G0 142 [.d e, .d (.int .i64 0), .d (.int .i64 0), .fn 93 []] [] (fun r t => r = .tup [] ∧ t = []) := by
    intro e he
    rcases he with rfl | rfl
    all_goals
      refine run142 0 [] rfl rfl ?_
      conv => whnf
      refine StopG.rounds wk142 [] [2, 8] (fun m env s => m = 0 ∧ env = [(2, .d (.int .i64 0)), (8, .d (.int .i64 1))] ∧ s = []) rfl ?_ ?_
      · conv => whnf
        exact ⟨_, rfl, rfl, rfl⟩
      rintro m env s ⟨rfl, rfl, rfl⟩
      conv => whnf
      exact ⟨rfl, rfl⟩
  have h120 : Contract Try.prog G0 120 [.d e, .d (.int .i64 0), .fn 93 []] [] (fun r t => r = .tup [] ∧ t = []) := by
    rcases he with rfl | rfl
    all_goals
      refine run120 0 [] rfl rfl ?_
      conv => whnf
      refine StopG.rounds wk120 [] [0, 1, 2, 6, 7, 8] (fun m env s => m = 0 ∧ ∃ e, (e = .nil ∨ e = .emp) ∧ env = [(0, .d e), (1, .d (.int .i64 0)), (2, .fn 93 []), (6, .d (.int .i64 20)), (7, .d (.int .i64 0)), (8, .d (.int .i64 20))] ∧ s = []) rfl ?_ ?_
      · conv => whnf
        first | exact ⟨_, rfl, _, .inl rfl, rfl, rfl⟩ | exact ⟨_, rfl, _, .inr rfl, rfl, rfl⟩
      rintro m env s ⟨rfl, e, he, rfl, rfl⟩
      have h142 := h142 e he
      rcases he with rfl | rfl
      all_goals
        conv => whnf
        refine .obj rfl ?_
        conv => whnf
        refine ⟨_, _, ⟨WkL.refl _, h142⟩, fun res s1 hs => ?_⟩
        obtain ⟨rfl, rfl⟩ := hs
        conv => whnf
        refine StopG.rounds wk120 [] [1, 6] (fun m env s => m = 0 ∧ env = [(1, .d (.int .i64 0)), (6, .d (.int .i64 20))] ∧ s = []) rfl ?_ ?_
        · conv => whnf
          exact ⟨_, rfl, rfl, rfl⟩
        rintro m env s ⟨rfl, rfl, rfl⟩
        conv => whnf
        exact ⟨rfl, rfl⟩
  rcases he with rfl | rfl
  all_goals
    refine run92 0 [] rfl rfl ?_
    conv => whnf
    refine .obj rfl ?_
    conv => whnf
    refine ⟨_, _, ⟨WkL.refl _, h120⟩, fun res s1 hs => ?_⟩
    obtain ⟨rfl, rfl⟩ := hs
    conv => whnf
    exact ⟨rfl, rfl⟩
abbrev cR (cnt fdr hop : Int) (mem : List Int) (en : AV) : AB := .cells [.d (.int .i64 cnt), .d (.int .i64 fdr), .d (.int .i64 hop), .d (.list 1 (rowsI mem)), en]
abbrev c0 : AB := .cells [.d (.int .i64 0), .d (.int .i64 0), .d (.int .i64 0), .d .nil, .d .nil]
/-- Where a round of adding begins. -/
def addI (cnt fdr hop : Int) (mem : List Int) (l : List En) (o : List Kt) (c : Nat) (m : Nat) (env : Env) (s : List (Nat × AB)) : Prop :=
  ∃ (i : Nat) (l' : List En), i ≤ o.length ∧ m = o.length - i ∧ l' = addL l (o.take i) ∧ env = [(2, .ref (.g 0) 0), (4, .ref (.g 1) 0), (14, .slc (.g 2) 3 0 o.length c), (15, .d (.int .i64 (o.length : Int))), (16, .d (.int .i64 (i : Int)))] ∧
    ((∃ e : DV, l' = [] ∧ (e = .nil ∨ e = .emp) ∧ s = [(0, cR cnt fdr hop mem (.d e)), (1, c0), (2, .row 3 (rowsK o))]) ∨
      ∃ cap, l'.length ≤ cap ∧ s = [(0, cR cnt fdr hop mem (.slc (.g 3) 5 0 l'.length cap)), (1, c0), (2, .row 3 (rowsK o)), (3, .row 5 (rowsE l'))])
/-- What comes out. -/
def addR (cnt fdr hop : Int) (mem : List Int) (L : List En) (r : AV) (t : List (Nat × AB)) : Prop :=
  (∃ e : DV, L = [] ∧ (e = .nil ∨ e = .emp) ∧ r = rgV cnt fdr hop mem (.d e) ∧ t = []) ∨ ∃ cap, L.length ≤ cap ∧ r = rgV cnt fdr hop mem (.slc (.g 0) 5 0 L.length cap) ∧ t = [(0, .row 5 (rowsE L))]
theorem wk_new (k : Kt) : WkD (.list 5 [[.int .i64 k.1, .int .i64 k.2.1, .int .i64 k.2.2, .nil, .int .i64 (-1)]]) (.list 5 [rowE (newE k)]) := by
  refine WkD.list rfl fun i r r' hr hr' => ?_
  match i, hr, hr' with
  | 0, hr, hr' =>
    cases hr
    cases hr'
    refine ⟨rfl, fun j x y hx hy => ?_⟩
    match j, hx, hy with
    | 0, hx, hy => cases hx; cases hy; exact WkD.refl _
    | 1, hx, hy => cases hx; cases hy; exact WkD.refl _
    | 2, hx, hy => cases hx; cases hy; exact WkD.refl _
    | 3, hx, hy => cases hx; cases hy; exact WkD.nil 2
    | 4, hx, hy => cases hx; cases hy; exact WkD.refl _
    | n + 5, hx, _ => simp at hx
  | n + 1, hr, _ => simp at hr
theorem addL_snoc {l : List En} {o : List Kt} {i : Nat} {k : Kt} (hk : o[i]? = some k) : addL l (o.take (i + 1)) = addE (addL l (o.take i)) k := by
  rw [List.take_add_one, hk]
  simp [addL]
set_option maxRecDepth 100000 in
theorem addStep (cnt fdr hop : Int) (mem : List Int) (l : List En) (hl : l.length ≤ 1000) (o : List Kt) (ho : o.length ≤ 1000) (c : Nat) (m : Nat) (env : Env) (s : List (Nat × AB)) (hI : addI cnt fdr hop mem l o c m env s) :
    run Try.prog cx63 0 kt63 [8] R63 (KL Try.prog cx63 0 kt63 [8] R63 (KV T Try.f63.results.toList 0 (addR cnt fdr hop mem (addL l o))) [Fr.bl 0, Fr.sq [1, 1, 1, 1, 1]] [2, 4, 14, 15, 16] (addI cnt fdr hop mem l o c) m) 100000 ⟨.code [0, 0, 1, 0, 1, 1, 1, 1], [], env, s⟩ := by
  obtain ⟨i, l', hi, rfl, hl', rfl, hs⟩ := hI
  have hln : l'.length ≤ 2000 := by
    rw [hl']
    have := addL_len (o.take i) l
    rw [List.length_take] at this
    omega
  rcases hs with ⟨e, rfl, rfl | rfl, rfl⟩ | ⟨cap, hcap, rfl⟩
  · conv => whnf
    refine bcase_intro (fun h => ?_) (fun h => ?_) <;> conv => whnf
    · have hio := lt_of h
      obtain ⟨k, hk, hd⟩ := at_i hio
      refine ⟨⟨by omega, by omega⟩, ?_⟩
      conv => whnf
      refine ⟨rowK k, row_g hk, rfl, ?_⟩
      conv => whnf
      refine .scal [awG cnt fdr hop mem [], calV k.1 k.2.1] (.d (.int .i64 (-1))) (fun _ => ⟨.a (.s _ (.s _ (.s _ (.s _ (.n 5 .nil))))) (.refl _), rfl, at87 cnt fdr hop mem [] (by simp) k.1 k.2.1⟩) ?_
      conv => whnf
      refine .ghost (GV.freeze 3 rfl (by simp) (by repeat' first | exact trivial | apply And.intro | decide | (simp; done) | omega) (by repeat' first | exact trivial | apply And.intro)) (.go wk63 [] ?_)
      conv => whnf
      refine .scal [.d (.list 5 []), .fn 97 [.d (.ptr (rowK k) 0)]] (.d (.int .i64 (-1))) ⟨.n 5 (.refl _), rfl, index96 [] (by simp) (lessK k) 97 (rowK k) (add97 k)⟩ ?_
      conv => whnf
      refine .obj rfl ?_
      conv => whnf
      refine ⟨_, _, ⟨.s _ (.s _ (.w (wk_new k) .nil)), insertE_none .nil (.inl rfl) (rowE (newE k))⟩, fun res s1 h => ?_⟩
      obtain ⟨c', hc', rfl, rfl⟩ := h
      conv => whnf
      rw [succ_i hio (by omega)]
      refine ⟨_, by omega, i + 1, [newE k], hio, rfl, ?_, rfl, .inr ⟨c', hc', rfl⟩⟩
      rw [addL_snoc hk, ← hl']
      rfl
    · have hio := ge_of h
      rw [List.take_of_length_le hio] at hl'
      exact .inl ⟨.nil, hl'.symm, .inl rfl, rfl, rfl⟩
  · conv => whnf
    refine bcase_intro (fun h => ?_) (fun h => ?_) <;> conv => whnf
    · have hio := lt_of h
      obtain ⟨k, hk, hd⟩ := at_i hio
      refine ⟨⟨by omega, by omega⟩, ?_⟩
      conv => whnf
      refine ⟨rowK k, row_g hk, rfl, ?_⟩
      conv => whnf
      refine .scal [awG cnt fdr hop mem [], calV k.1 k.2.1] (.d (.int .i64 (-1))) (fun _ => ⟨.a (.s _ (.s _ (.s _ (.s _ (.e 5 .nil))))) (.refl _), rfl, at87 cnt fdr hop mem [] (by simp) k.1 k.2.1⟩) ?_
      conv => whnf
      refine .ghost (GV.freeze 3 rfl (by simp) (by repeat' first | exact trivial | apply And.intro | decide | (simp; done) | omega) (by repeat' first | exact trivial | apply And.intro)) (.go wk63 [] ?_)
      conv => whnf
      refine .scal [.d (.list 5 []), .fn 97 [.d (.ptr (rowK k) 0)]] (.d (.int .i64 (-1))) ⟨.e 5 (.refl _), rfl, index96 [] (by simp) (lessK k) 97 (rowK k) (add97 k)⟩ ?_
      conv => whnf
      refine .obj rfl ?_
      conv => whnf
      refine ⟨_, _, ⟨.s _ (.s _ (.w (wk_new k) .nil)), insertE_none .emp (.inr rfl) (rowE (newE k))⟩, fun res s1 h => ?_⟩
      obtain ⟨c', hc', rfl, rfl⟩ := h
      conv => whnf
      rw [succ_i hio (by omega)]
      refine ⟨_, by omega, i + 1, [newE k], hio, rfl, ?_, rfl, .inr ⟨c', hc', rfl⟩⟩
      rw [addL_snoc hk, ← hl']
      rfl
    · have hio := ge_of h
      rw [List.take_of_length_le hio] at hl'
      exact .inl ⟨.emp, hl'.symm, .inr rfl, rfl, rfl⟩
  · conv => whnf
    have hrl := rowsE_len l'
    refine bcase_intro (fun h => ?_) (fun h => ?_) <;> conv => whnf
    · have hio := lt_of h
      obtain ⟨k, hk, hd⟩ := at_i hio
      have hlend : Contract Try.prog G0 87 [awG cnt fdr hop mem l', calV k.1 k.2.1] [] (fun r t => r = .d (.int .i64 (idxFrom (isC (k.1, k.2.1)) l' 0)) ∧ t = []) := at87 cnt fdr hop mem l' (by omega) k.1 k.2.1
      rw [show awG cnt fdr hop mem l' = rgV cnt fdr hop mem (.d (.list 5 ((List.drop 0 (rowsE l')).take l'.length))) by rw [List.drop_zero, List.take_of_length_le (by omega)]] at hlend
      have hix := index96O l' (by omega) (lessK k) 97 (rowK k) (add97 k)
      refine ⟨⟨by omega, by omega⟩, ?_⟩
      conv => whnf
      refine ⟨rowK k, row_g hk, rfl, ?_⟩
      conv => whnf
      refine .scal [rgV cnt fdr hop mem (.d (.list 5 ((List.drop 0 (rowsE l')).take l'.length))), calV k.1 k.2.1] _ (fun _ => ⟨.fz 3 _ rfl (by simp) (by repeat' first | exact trivial | apply And.intro | decide | (simp; done) | omega) (.refl _), rfl, hlend⟩) ?_
      conv => whnf
      refine bcase_intro (fun hg => ?_) (fun hg => ?_) <;> conv => whnf
      · have hsk : skipE l' k = true := hg
        rw [succ_i hio (by omega)]
        refine ⟨_, by omega, i + 1, l', hio, rfl, ?_, rfl, .inr ⟨cap, hcap, rfl⟩⟩
        rw [addL_snoc hk, ← hl', addE, hsk]
        rfl
      have hsk : skipE l' k = false := hg
      have hnx : addL l (o.take (i + 1)) = insE k l' := by
        rw [addL_snoc hk, ← hl', addE, hsk]
        rfl
      refine .ghost (GV.freeze 4 rfl (by simp) (by repeat' first | exact trivial | apply And.intro | decide | (simp; done) | omega) (by repeat' first | exact trivial | apply And.intro)) (.go wk63 [] ?_)
      conv => whnf
      have hil := insE_len k l'
      rcases idx_cases0 (lessK k) l' with ⟨e1, _⟩ | ⟨j, x, e1, hx, _⟩
      · rw [e1] at hix
        have hin : insE k l' = l' ++ [newE k] := by unfold insE; rw [e1]; rfl
        have hins := insertE_own (rowsE l') (by omega) l'.length (by omega) cap (by omega) (rowE (newE k))
        rw [hrl] at hins
        have hro : (rowsE l').take l'.length ++ rowE (newE k) :: (rowsE l').drop l'.length = rowsE (insE k l') := by
          rw [hin, List.take_of_length_le (by omega), List.drop_of_length_le (by omega)]
          simp [rowsE]
        rw [hro, ← hil] at hins
        refine .scal [.d (.list 5 ((List.drop 0 (rowsE l')).take l'.length)), .fn 97 [.d (.ptr (rowK k) 0)]] (.d (.int .i64 (-1))) ⟨.fz 3 (.row 5 (rowsE l')) rfl (by simp) (by repeat' first | exact trivial | apply And.intro | decide | (simp; done) | omega) (.refl _), rfl, hix⟩ ?_
        conv => whnf
        refine .obj rfl ?_
        conv => whnf
        refine ⟨_, _, ⟨.s _ (.s _ (.w (wk_new k) .nil)), hins⟩, fun res s1 h => ?_⟩
        rcases h with ⟨c', hc', rfl, rfl⟩ | ⟨c', old, hc', rfl | rfl, rfl, rfl⟩
        all_goals
          conv => whnf
          rw [succ_i hio (by omega)]
          exact ⟨_, by omega, i + 1, insE k l', hio, rfl, hnx.symm, rfl, .inr ⟨c', hc', rfl⟩⟩
      · rw [e1] at hix
        have hjl := (List.getElem?_eq_some_iff.1 hx).1
        have hin : insE k l' = l'.take j ++ newE k :: l'.drop j := by unfold insE; rw [e1]
        have hins := insertE_own (rowsE l') (by omega) j (by omega) cap (by omega) (rowE (newE k))
        rw [hrl] at hins
        have hro : (rowsE l').take j ++ rowE (newE k) :: (rowsE l').drop j = rowsE (insE k l') := by
          rw [hin]
          simp [rowsE, List.map_take, List.map_drop]
        rw [hro, ← hil] at hins
        refine .scal [.d (.list 5 ((List.drop 0 (rowsE l')).take l'.length)), .fn 97 [.d (.ptr (rowK k) 0)]] (.d (.int .i64 (j : Int))) ⟨.fz 3 (.row 5 (rowsE l')) rfl (by simp) (by repeat' first | exact trivial | apply And.intro | decide | (simp; done) | omega) (.refl _), rfl, hix⟩ ?_
        conv => whnf
        rw [show decide ((j : Int) < 0) = false from decide_eq_false (by omega)]
        conv => whnf
        refine .obj rfl ?_
        conv => whnf
        refine ⟨_, _, ⟨.s _ (.s _ (.w (wk_new k) .nil)), hins⟩, fun res s1 h => ?_⟩
        rcases h with ⟨c', hc', rfl, rfl⟩ | ⟨c', old, hc', rfl | rfl, rfl, rfl⟩
        all_goals
          conv => whnf
          rw [succ_i hio (by omega)]
          exact ⟨_, by omega, i + 1, insE k l', hio, rfl, hnx.symm, rfl, .inr ⟨c', hc', rfl⟩⟩
    · have hio := ge_of h
      rw [List.take_of_length_le hio] at hl'
      rw [← hl']
      exact .inr ⟨cap, hcap, rfl, rfl⟩
end Go.Proofs.Ytkenimmellonjaa
/- Seat r2: what is lit is added: the whole. -/
namespace Go.Proofs.Ytkenimmellonjaa
open Go.Pv Go.RowKit Go.Shelf
set_option maxRecDepth 100000 in
theorem add_cons (cnt fdr hop : Int) (mem : List Int) (hm : mem.length ≤ 100000) (l : List En) (hl : l.length ≤ 1000) (hb : ∀ e ∈ l, e.bids.length ≤ 100000) (k0 : Kt) (ks0 : List Kt) (hk : ks0.length + 1 ≤ 1000) :
    Contract Try.prog G0 63 [awG cnt fdr hop mem l, .d (.list 3 (rowsK (k0 :: ks0)))] [] (addR cnt fdr hop mem (addL l (sortK cK (k0 :: ks0)))) := by
  have hcl := clone91_cons (rowK k0) (rowsK ks0) (by rw [rowsK_len]; omega)
  rw [rowsK_len] at hcl
  have hsl : (sortK cK (k0 :: ks0)).length = ks0.length + 1 := by rw [sortK_len]; rfl
  cases l with
  | nil =>
    refine run63 0 [8] rfl rfl ?_
    conv => whnf
    refine .obj rfl ?_
    conv => whnf
    refine ⟨_, _, ⟨WkL.refl _, own_nil0 cnt fdr hop mem hm⟩, fun res s1 h => ?_⟩
    obtain ⟨h0, rfl⟩ := h
    obtain ⟨e, he, rfl⟩ : ∃ e : DV, (e = .nil ∨ e = .emp) ∧ res = rgV cnt fdr hop mem (.d e) := h0.elim (fun h => ⟨.nil, .inl rfl, h⟩) fun h => ⟨.emp, .inr rfl, h⟩
    clear h0
    rcases he with rfl | rfl
    all_goals
      conv => whnf
      refine .obj rfl ?_
      conv => whnf
      refine ⟨_, _, ⟨WkL.refl _, hcl⟩, fun res s1 h => ?_⟩
      obtain ⟨c, hc, rfl, rfl⟩ := h
      conv => whnf
      refine .obj rfl ?_
      conv => whnf
      refine ⟨_, _, ⟨WkL.refl _, sortS (k0 :: ks0) (ks0.length + 1) rfl (by omega) c⟩, fun res s1 h => ?_⟩
      obtain ⟨rfl, rfl⟩ := h
      conv => whnf
      rw [← hsl]
      generalize sortK cK (k0 :: ks0) = o at hsl
      refine StopG.rounds wk63 [8] [2, 4, 14, 15, 16] (addI cnt fdr hop mem [] o c) rfl ?_ (addStep cnt fdr hop mem [] (by simp) o (by omega) c)
      conv => whnf
      refine ⟨_, 0, [], Nat.zero_le _, rfl, rfl, rfl, .inl ⟨_, rfl, ?_, rfl⟩⟩
      first | exact .inl rfl | exact .inr rfl
  | cons e0 l0 =>
    simp only [List.length_cons] at hl
    refine run63 0 [8] rfl rfl ?_
    conv => whnf
    refine .obj rfl ?_
    conv => whnf
    refine ⟨_, _, ⟨WkL.refl _, own_cons cnt fdr hop mem hm e0 l0 (by omega) hb⟩, fun res s1 h => ?_⟩
    obtain ⟨cap, hcap, rfl, rfl⟩ := h
    generalize hle : e0 :: l0 = l at hb
    have hll : l.length = l0.length + 1 := by rw [← hle]; rfl
    rw [← hll] at hcap ⊢
    conv => whnf
    refine .obj rfl ?_
    conv => whnf
    refine ⟨_, _, ⟨WkL.refl _, hcl⟩, fun res s1 h => ?_⟩
    obtain ⟨c, hc, rfl, rfl⟩ := h
    conv => whnf
    refine .obj rfl ?_
    conv => whnf
    refine ⟨_, _, ⟨WkL.refl _, sortS (k0 :: ks0) (ks0.length + 1) rfl (by omega) c⟩, fun res s1 h => ?_⟩
    obtain ⟨rfl, rfl⟩ := h
    conv => whnf
    rw [← hsl]
    generalize sortK cK (k0 :: ks0) = o at hsl
    refine StopG.rounds wk63 [8] [2, 4, 14, 15, 16] (addI cnt fdr hop mem l o c) rfl ?_ (addStep cnt fdr hop mem l (by omega) o (by omega) c)
    conv => whnf
    exact ⟨_, 0, l, Nat.zero_le _, rfl, rfl, rfl, .inr ⟨cap, hcap, rfl⟩⟩
set_option maxRecDepth 100000 in
theorem add_none (cnt fdr hop : Int) (mem : List Int) (hm : mem.length ≤ 100000) (l : List En) (hl : l.length ≤ 1000) (hb : ∀ e ∈ l, e.bids.length ≤ 100000) :
    Contract Try.prog G0 63 [awG cnt fdr hop mem l, .d (.list 3 (rowsK []))] [] (addR cnt fdr hop mem l) := by
  cases l with
  | nil =>
    refine run63 0 [8] rfl rfl ?_
    conv => whnf
    refine .obj rfl ?_
    conv => whnf
    refine ⟨_, _, ⟨WkL.refl _, own_nil0 cnt fdr hop mem hm⟩, fun res s1 h => ?_⟩
    obtain ⟨h0, rfl⟩ := h
    obtain ⟨e, he, rfl⟩ : ∃ e : DV, (e = .nil ∨ e = .emp) ∧ res = rgV cnt fdr hop mem (.d e) := h0.elim (fun h => ⟨.nil, .inl rfl, h⟩) fun h => ⟨.emp, .inr rfl, h⟩
    clear h0
    rcases he with rfl | rfl
    all_goals
      conv => whnf
      refine .obj rfl ?_
      conv => whnf
      refine ⟨_, _, ⟨WkL.refl _, clone91_nil⟩, fun res s1 h => ?_⟩
      obtain ⟨rfl | rfl, rfl⟩ := h
      all_goals
        conv => whnf
        refine .obj rfl ?_
        conv => whnf
        refine ⟨_, _, ⟨WkL.refl _, sortS_none _ (by simp)⟩, fun res s1 h => ?_⟩
        obtain ⟨rfl, rfl⟩ := h
        conv => whnf
        refine StopG.rounds wk63 [8] [2, 4, 15, 16] (fun m env s => ∃ e : DV, (e = .nil ∨ e = .emp) ∧ m = 0 ∧ env = [(2, .ref (.g 0) 0), (4, .ref (.g 1) 0), (15, .d (.int .i64 0)), (16, .d (.int .i64 0))] ∧ s = [(0, cR cnt fdr hop mem (.d e)), (1, c0)]) rfl ?_ ?_
        · conv => whnf
          refine ⟨_, _, ?_, rfl, rfl, rfl⟩
          first | exact .inl rfl | exact .inr rfl
        rintro m env s ⟨e, rfl | rfl, rfl, rfl, rfl⟩
        · conv => whnf
          exact .inl ⟨_, rfl, .inl rfl, rfl, rfl⟩
        · conv => whnf
          exact .inl ⟨_, rfl, .inr rfl, rfl, rfl⟩
  | cons e0 l0 =>
    simp only [List.length_cons] at hl
    refine run63 0 [8] rfl rfl ?_
    conv => whnf
    refine .obj rfl ?_
    conv => whnf
    refine ⟨_, _, ⟨WkL.refl _, own_cons cnt fdr hop mem hm e0 l0 (by omega) hb⟩, fun res s1 h => ?_⟩
    obtain ⟨cap, hcap, rfl, rfl⟩ := h
    generalize hle : e0 :: l0 = l at hb
    have hll : l.length = l0.length + 1 := by rw [← hle]; rfl
    rw [← hll] at hcap ⊢
    conv => whnf
    refine .obj rfl ?_
    conv => whnf
    refine ⟨_, _, ⟨WkL.refl _, clone91_nil⟩, fun res s1 h => ?_⟩
    obtain ⟨rfl | rfl, rfl⟩ := h
    all_goals
      conv => whnf
      refine .obj rfl ?_
      conv => whnf
      refine ⟨_, _, ⟨WkL.refl _, sortS_none _ (by simp)⟩, fun res s1 h => ?_⟩
      obtain ⟨rfl, rfl⟩ := h
      conv => whnf
      refine StopG.rounds wk63 [8] [2, 4, 15, 16] (fun m env s => m = 0 ∧ env = [(2, .ref (.g 0) 0), (4, .ref (.g 1) 0), (15, .d (.int .i64 0)), (16, .d (.int .i64 0))] ∧ s = [(0, cR cnt fdr hop mem (.slc (.g 2) 5 0 l.length cap)), (1, c0), (2, .row 5 (rowsE l))]) rfl ?_ ?_
      · conv => whnf
        exact ⟨_, rfl, rfl, rfl⟩
      rintro m env s ⟨rfl, rfl, rfl⟩
      conv => whnf
      exact .inr ⟨cap, hcap, rfl, rfl⟩
/-- As data. -/
theorem add (cnt fdr hop : Int) (mem : List Int) (hm : mem.length ≤ 100000) (l : List En) (hl : l.length ≤ 1000) (hb : ∀ e ∈ l, e.bids.length ≤ 100000) (ks : List Kt) (hk : ks.length ≤ 1000) :
    Contract Try.prog G0 63 [awG cnt fdr hop mem l, .d (.list 3 (rowsK ks))] [] (fun r t => r = awG cnt fdr hop mem (addL l (sortK cK ks)) ∧ t = []) := by
  have key : Contract Try.prog G0 63 [awG cnt fdr hop mem l, .d (.list 3 (rowsK ks))] [] (addR cnt fdr hop mem (addL l (sortK cK ks))) := by
    cases ks with
    | nil => exact add_none cnt fdr hop mem hm l hl hb
    | cons k0 ks0 => exact add_cons cnt fdr hop mem hm l hl hb k0 ks0 (by simpa using hk)
  generalize addL l (sortK cK ks) = L at key
  refine key.told fun r t hr => ?_
  have hrl := rowsE_len L
  rcases hr with ⟨e, h0, he, rfl, rfl⟩ | ⟨cap, hc, rfl, rfl⟩
  · rw [h0]
    refine ⟨awG cnt fdr hop mem [], ?_, rfl, rfl, rfl⟩
    rcases he with rfl | rfl
    · exact GV.weak (cx := cx1 G0) (n := 0) (env := [(0, rgV cnt fdr hop mem (.d .nil))]) (s := []) (wkA 5) rfl fun _ _ _ _ _ h => wkA_rv 5 h
    · exact GV.weak (cx := cx1 G0) (n := 0) (env := [(0, rgV cnt fdr hop mem (.d .emp))]) (s := []) (wkA 5) rfl fun _ _ _ _ _ h => wkA_rv 5 h
  · refine ⟨awG cnt fdr hop mem L, ?_, rfl, rfl, rfl⟩
    refine GV.trans (GV.freeze 0 rfl (by simp) (by repeat' first | exact trivial | apply And.intro | decide | (simp; done) | (simp; omega) | omega) (by repeat' first | exact trivial | apply And.intro)) (GV.tidied [0] ?_)
    conv => whnf
    rw [List.drop_zero, List.take_of_length_le (by omega)]
    exact ⟨rfl, rfl⟩
end Go.Proofs.Ytkenimmellonjaa
/- Seat r2: entries the same; a hop further. -/
namespace Go.Proofs.Ytkenimmellonjaa
open Go.Pv Go.RowKit Go.Shelf
set_option maxRecDepth 100000 in
theorem sameBids99 (a b : List B) (ha : a.length ≤ 4611686018427387904) : Contract Try.prog G0 99 [.d (.list 2 (rowsB a)), .d (.list 2 (rowsB b))] [] (fun r t => r = .d (.bool (a == b)) ∧ t = []) := by
  have hlen := rowsB_len a
  have hlen2 := rowsB_len b
  refine run99 0 [] rfl rfl ?_
  conv => whnf
  refine bcase_intro (fun h => ?_) (fun h => ?_) <;> conv => whnf
  · rw [hlen, hlen2] at h
    refine ⟨rd_bool ?_, rfl⟩
    symm
    rw [beq_eq_false_iff_ne]
    rintro rfl
    simp at h
  have hab : a.length = b.length := by
    rw [hlen, hlen2] at h
    simp at h
    omega
  refine StopG.rounds wk99 [] [0, 1, 5] (fun m env s => ∃ i : Nat, i ≤ a.length ∧ m = a.length - i ∧ a.take i = b.take i ∧
    env = [(0, .d (.list 2 (rowsB a))), (1, .d (.list 2 (rowsB b))), (5, .d (.int .i64 (i : Int)))] ∧ s = []) rfl ?_ ?_
  · conv => whnf
    exact ⟨_, 0, Nat.zero_le _, rfl, rfl, rfl, rfl⟩
  rintro m env s ⟨i, hi, rfl, heq, rfl, rfl⟩
  conv => whnf
  refine bcase_intro (fun h => ?_) (fun h => ?_) <;> conv => whnf
  · have h := lt_of h
    rw [hlen] at h
    obtain ⟨x, hx, hdrop⟩ := at_i h
    obtain ⟨y, hy, hdrop2⟩ := at_i (l := b) (i := i) (by omega)
    refine ⟨rowB x, ⟨by omega, row_i hx⟩, ?_⟩
    conv => whnf
    refine ⟨rowB y, ⟨by omega, row_i hy⟩, ?_⟩
    conv => whnf
    refine .scal [bidv x, bidv y] _ ⟨.refl _, rfl, sameC x y⟩ ?_
    conv => whnf
    refine bcase_intro (fun h2 => ?_) (fun h2 => ?_) <;> conv => whnf
    · refine ⟨rd_bool ?_, rfl⟩
      symm
      rw [beq_eq_false_iff_ne]
      intro e
      subst e
      rw [hx] at hy
      cases hy
      rw [show sameB x x = true by simp [sameB]] at h2
      cases h2
    · rw [succ_i h ha]
      refine ⟨_, by omega, i + 1, h, rfl, ?_, rfl, rfl⟩
      have h2 : x = y := by
        have h3 : sameB x y = true := by simpa using h2
        simp only [sameB, Bool.and_eq_true, beq_iff_eq] at h3
        exact Prod.ext h3.1 h3.2
      rw [List.take_add_one, List.take_add_one, heq, hx, hy, h2]
  · have h := ge_of h
    rw [hlen] at h
    refine ⟨rd_bool ?_, rfl⟩
    rw [List.take_of_length_le h, List.take_of_length_le (by omega)] at heq
    symm
    simp [heq]

def sameE (x y : En) : Bool := bif (bif (bif (bif x.fl == y.fl then x.dr == y.dr else false) then x.gn == y.gn else false) then x.bids == y.bids else false) then x.aw == y.aw else false
set_option maxRecDepth 100000 in
theorem sameEntry (x y : En) (hx : x.bids.length ≤ 4611686018427387904) : Contract Try.prog G0 64 [entV x, entV y] [] (fun r t => r = .d (.bool (sameE x y)) ∧ t = []) := by
  refine run64 0 [] rfl rfl ?_
  conv => whnf
  refine .scal [latV x.fl x.dr x.gn, latV y.fl y.dr y.gn] _ ⟨.refl _, rfl, sameLatch _ _ _ _ _ _⟩ ?_
  conv => whnf
  refine .scal [.d (.list 2 (rowsB x.bids)), .d (.list 2 (rowsB y.bids))] _ (fun _ => ⟨.refl _, rfl, sameBids99 x.bids y.bids hx⟩) ?_
  conv => whnf
  exact ⟨rfl, rfl⟩
theorem sameE_refl (x : En) : sameE x x = true := by simp [sameE]
def passR (hop : Int) : Bool := !decide (hop ≥ 1099511627776)
def passH (hop : Int) : Int := bif decide (hop ≥ 1099511627776) then hop else IntKind.wrap .i64 (hop + 1)
set_option maxRecDepth 100000 in
theorem pass_nil (cnt fdr hop : Int) (mem : List Int) (hm : mem.length ≤ 100000) : Contract Try.prog G0 66 [awG cnt fdr hop mem []] [] (fun r t => r = .tup [awG cnt fdr (passH hop) mem [], .d (.bool (passR hop))] ∧ t = []) := by
  refine run66 0 [] rfl rfl ?_
  conv => whnf
  refine .obj rfl ?_
  conv => whnf
  refine ⟨_, _, ⟨WkL.refl _, own_nil cnt fdr hop mem hm⟩, fun res s1 h => ?_⟩
  obtain ⟨rfl, rfl⟩ := h
  conv => whnf
  refine bcase_intro (fun h => ?_) (fun h => ?_) <;> conv => whnf
  · rw [passH, passR, h]
    exact ⟨rfl, rfl⟩
  · rw [passH, passR, h]
    exact ⟨rfl, rfl⟩
set_option maxRecDepth 100000 in
theorem pass_cons (cnt fdr hop : Int) (mem : List Int) (hm : mem.length ≤ 100000) (e0 : En) (l0 : List En) (hl : l0.length ≤ 1000) (hb : ∀ e ∈ e0 :: l0, e.bids.length ≤ 100000) :
    Contract Try.prog G0 66 [awG cnt fdr hop mem (e0 :: l0)] [] (fun r t => ∃ c, l0.length + 1 ≤ c ∧ r = .tup [rgV cnt fdr (passH hop) mem (.slc (.g 0) 5 0 (l0.length + 1) c), .d (.bool (passR hop))] ∧ t = [(0, .row 5 (rowsE (e0 :: l0)))]) := by
  refine run66 0 [] rfl rfl ?_
  conv => whnf
  refine .obj rfl ?_
  conv => whnf
  refine ⟨_, _, ⟨WkL.refl _, own_cons cnt fdr hop mem hm e0 l0 hl hb⟩, fun res s1 h => ?_⟩
  obtain ⟨c, hc, rfl, rfl⟩ := h
  conv => whnf
  refine bcase_intro (fun h => ?_) (fun h => ?_) <;> conv => whnf
  · rw [passH, passR, h]
    exact ⟨c, hc, rfl, rfl⟩
  · rw [passH, passR, h]
    exact ⟨c, hc, rfl, rfl⟩
theorem pass (cnt fdr hop : Int) (mem : List Int) (hm : mem.length ≤ 100000) (l : List En) (hl : l.length ≤ 1000) (hb : ∀ e ∈ l, e.bids.length ≤ 100000) :
    Contract Try.prog G0 66 [awG cnt fdr hop mem l] [] (fun r t => r = .tup [awG cnt fdr (passH hop) mem l, .d (.bool (passR hop))] ∧ t = []) := by
  cases l with
  | nil => exact pass_nil cnt fdr hop mem hm
  | cons e0 l0 =>
    refine (pass_cons cnt fdr hop mem hm e0 l0 (by simp at hl; omega) hb).told fun r t hr => ?_
    obtain ⟨c, hc, rfl, rfl⟩ := hr
    refine ⟨.tup [awG cnt fdr (passH hop) mem (e0 :: l0), .d (.bool (passR hop))], ?_, rfl, rfl, rfl⟩
    have hrl := rowsE_len (e0 :: l0)
    simp only [List.length_cons] at hrl
    refine GV.trans (GV.freeze 0 rfl (by simp) (by repeat' first | exact trivial | apply And.intro | decide | (simp; done) | (simp; omega) | omega) (by repeat' first | exact trivial | apply And.intro)) (GV.tidied [0] ?_)
    conv => whnf
    rw [List.drop_zero, List.take_of_length_le (by omega)]
    exact ⟨rfl, rfl⟩
end Go.Proofs.Ytkenimmellonjaa
/- Seat r2: what is awarded is somebody's: the walk. -/
namespace Go.Proofs.Ytkenimmellonjaa
open Go.Pv Go.RowKit Go.Shelf
theorem add_i {a b : Nat} (h : a + b ≤ 4611686018427387904) : IntKind.wrap .i64 ((a : Int) + (b : Int)) = ((a + b : Nat) : Int) := by
  rw [show (a : Int) + (b : Int) = ((a + b : Nat) : Int) by omega]
  exact wrap_id (by omega) (by omega)
theorem sum_snoc {f : Int → Nat} {l : List Int} {i : Nat} {x : Int} (hx : l[i]? = some x) : ((l.take (i + 1)).map f).sum = ((l.take i).map f).sum + f x := by
  rw [List.take_add_one, hx]
  simp
theorem sum_le {f : Int → Nat} {b : Nat} (h : ∀ x, f x ≤ b) : ∀ (l : List Int), (l.map f).sum ≤ l.length * b
  | [] => by simp
  | x :: r => by
    have h1 := sum_le h r
    have h2 := h x
    simp only [List.map_cons, List.sum_cons, List.length_cons, Nat.succ_mul]
    omega
def nnB (e : En) : Bool := decide (e.aw ≥ 0)
theorem cnt_snoc {l : List En} {i : Nat} {x : En} (hx : l[i]? = some x) : ((l.take (i + 1)).filter nnB).length = ((l.take i).filter nnB).length + (if nnB x = true then 1 else 0) := by
  rw [List.take_add_one, hx]
  simp only [List.filter_append, List.length_append, Option.toList]
  cases h : nnB x <;> simp [h]
theorem cnt_le (l : List En) (i : Nat) : ((l.take i).filter nnB).length ≤ l.length := Nat.le_trans (List.length_filter_le _ _) (by simp; omega)
theorem awE_same {mem : List Int} {x : En} (h : nnB x = true) : awE mem x = x := by
  refine awE_not ?_
  have h1 : x.aw ≥ 0 := by simpa [nnB] using h
  rw [wonE, show decide (x.aw < 0) = false from decide_eq_false (by omega)]; rfl
abbrev celR (cnt fdr hop : Int) (mem : List Int) (l : List En) : AB := .cells [.d (.int .i64 cnt), .d (.int .i64 fdr), .d (.int .i64 hop), .d (.list 1 (rowsI mem)), .d (.list 5 (rowsE l))]
set_option maxRecDepth 100000 in
theorem ledgerMine (cnt fdr hop : Int) (mem : List Int) (l : List En) (hl : l.length ≤ maxLen) : Contract Try.prog G0 12 [awG cnt fdr hop mem l] [] (fun r t => r = .d (.bool true) ∧ t = []) := by
  refine run12 0 [] rfl rfl ?_
  conv => whnf
  refine .scal [] _ ⟨.refl _, rfl, first47⟩ ?_
  conv => whnf
  refine .scal [awG cnt fdr hop mem l] _ ⟨.refl _, rfl, light cnt fdr hop mem l hl⟩ ?_
  conv => whnf
  refine bcase_intro (fun hli => ?_) (fun hli => ?_) <;> conv => whnf
  · exact ⟨rfl, rfl⟩
  have ok := light_ok (show lightB cnt fdr hop mem l = true by simpa using hli)
  have hlen := rowsE_len l
  have hmn := rowsI_len mem
  have hm := ok.ml
  have hl := ok.ll
  have hbb : ∀ e ∈ l, e.bids.length ≤ 100000 := fun e he => Nat.le_trans (ok.bl e he) (by decide)
  have hbb2 : ∀ e ∈ l.map (awE mem), e.bids.length ≤ 100000 := by
    intro e he
    obtain ⟨y, hy, rfl⟩ := List.mem_map.1 he
    have h1 := hbb y hy
    rw [awE]; split <;> exact h1
  refine .data [awG cnt fdr hop mem l] _ ⟨.refl _, rfl, award cnt fdr hop mem (by omega) l (by omega) hbb⟩ ?_
  generalize hL : l.map (awE mem) = L at hbb2
  have hLl : L.length = l.length := by rw [← hL, List.length_map]
  conv => whnf
  have hLn := rowsE_len L
  refine StopG.rounds wk12 [] [1, 3, 4, 5, 6, 7] (fun m env s => ∃ i : Nat, i ≤ mem.length ∧ m = mem.length - i ∧ env = [(1, .ref (.g 0) 0), (3, .d (.bool true)), (4, .ref (.g 1) 0), (5, .d (.list 5 (rowsE (wonL mem l)))), (6, .d (.int .i64 ((((mem.take i).map fun x => (mineL x L).length).sum : Nat) : Int))), (7, .d (.int .i64 (i : Int)))] ∧ s = [(0, celR cnt fdr hop mem l), (1, celR cnt fdr hop mem L)]) rfl ?_ ?_
  · conv => whnf
    exact ⟨_, 0, Nat.zero_le _, rfl, rfl, rfl⟩
  rintro m env s ⟨i, hi, rfl, rfl, rfl⟩
  conv => whnf
  refine bcase_intro (fun h => ?_) (fun h => ?_) <;> conv => whnf
  · have hil := lt_of h
    rw [hmn] at hil
    obtain ⟨x, hx, hdrop⟩ := at_i hil
    refine ⟨rowI x, ⟨by omega, row_i hx⟩, ?_⟩
    conv => whnf
    refine .data [awG cnt fdr hop mem L, .d (.int .i64 x)] _ ⟨.refl _, rfl, mine cnt fdr hop mem L (by omega) x⟩ ?_
    conv => whnf
    have hkl := rowsK_len (mineL x L)
    have hml := mineL_len x L
    have hsl := sum_le (f := fun x => (mineL x L).length) (b := L.length) (fun x => mineL_len x L) (mem.take i)
    have hsl2 : (((mem.take i).map fun x => (mineL x L).length).sum) ≤ 16 * 30 := Nat.le_trans hsl (Nat.mul_le_mul (by simp; omega) (by omega))
    rw [hkl, add_i (by omega), ← sum_snoc (f := fun x => (mineL x L).length) hx]
    refine StopG.rounds wk12 [] [1, 3, 4, 5, 6, 7, 8, 9] (fun m env s => ∃ a : Nat, a ≤ (mineL x L).length ∧ m = (mineL x L).length - a ∧ env = [(1, .ref (.g 0) 0), (3, .d (.bool true)), (4, .ref (.g 1) 0), (5, .d (.list 5 (rowsE (wonL mem l)))), (6, .d (.int .i64 (((((mem.take (i + 1)).map fun x => (mineL x L).length).sum : Nat) : Int) : Int))), (7, .d (.int .i64 (i : Int))), (8, .d (.list 3 (rowsK (mineL x L)))), (9, .d (.int .i64 (a : Int)))] ∧ s = [(0, celR cnt fdr hop mem l), (1, celR cnt fdr hop mem L)]) rfl ?_ ?_
    · conv => whnf
      exact ⟨_, 0, Nat.zero_le _, rfl, rfl, rfl⟩
    rintro m env s ⟨a, ha, rfl, rfl, rfl⟩
    conv => whnf
    refine bcase_intro (fun h => ?_) (fun h => ?_) <;> conv => whnf
    · have hal := lt_of h
      rw [hkl] at hal
      obtain ⟨k, hk, _⟩ := at_i hal
      refine StopG.rounds wk12 [] [1, 3, 4, 5, 6, 7, 8, 9, 10] (fun m env s => ∃ j : Nat, j ≤ mem.length ∧ m = mem.length - j ∧ env = [(1, .ref (.g 0) 0), (3, .d (.bool true)), (4, .ref (.g 1) 0), (5, .d (.list 5 (rowsE (wonL mem l)))), (6, .d (.int .i64 (((((mem.take (i + 1)).map fun x => (mineL x L).length).sum : Nat) : Int) : Int))), (7, .d (.int .i64 (i : Int))), (8, .d (.list 3 (rowsK (mineL x L)))), (9, .d (.int .i64 (a : Int))), (10, .d (.int .i64 (j : Int)))] ∧ s = [(0, celR cnt fdr hop mem l), (1, celR cnt fdr hop mem L)]) rfl ?_ ?_
      · conv => whnf
        exact ⟨_, 0, Nat.zero_le _, rfl, rfl, rfl⟩
      rintro m env s ⟨j, hj, rfl, rfl, rfl⟩
      conv => whnf
      refine bcase_intro (fun h => ?_) (fun h => ?_) <;> conv => whnf
      · have hjl := lt_of h
        rw [hmn] at hjl
        obtain ⟨y, hy, _⟩ := at_i hjl
        refine ⟨rowI y, fun _ => ⟨by omega, row_i hy⟩, ?_⟩
        conv => whnf
        refine .data [awG cnt fdr hop mem L, .d (.int .i64 y)] _ (fun _ => ⟨.refl _, rfl, mine cnt fdr hop mem L (by omega) y⟩) ?_
        conv => whnf
        refine ⟨rowK k, fun _ => ⟨by omega, row_i hk⟩, ?_⟩
        conv => whnf
        refine .scal [.d (.list 3 (rowsK (mineL y L))), latV k.1 k.2.1 k.2.2] _ (fun _ => ⟨.refl _, rfl, hasLatch (mineL y L) (Nat.le_trans (mineL_len y L) (by omega)) k.1 k.2.1 k.2.2⟩) ?_
        conv => whnf
        refine bcase_intro (fun hg => ?_) (fun hg => ?_) <;> conv => whnf
        · have hji : j ≠ i := by
            rintro rfl
            rw [show (((j : Nat) : Int) != ((j : Nat) : Int)) = false by simp] at hg
            cases hg
          have h1 := ok.apart i j x y hx hy hji k (by rw [hL]; exact List.mem_of_getElem? hk)
          rw [hL] at h1
          have h1 : hasK (mineL y L) (k.fst, k.snd.fst, k.snd.snd) = false := h1
          rw [h1] at hg
          revert hg
          cases ((j : Int) != (i : Int)) <;> exact fun hg => absurd hg (by decide)
        · rw [succ_i hjl (by omega)]
          exact ⟨_, by omega, j + 1, hjl, rfl, rfl, rfl⟩
      · rw [succ_i hal (by omega)]
        exact ⟨_, by omega, a + 1, hal, rfl, rfl, rfl⟩
    · rw [succ_i hil (by omega)]
      exact ⟨_, by omega, i + 1, hil, rfl, rfl, rfl⟩
  have hil := ge_of h
  rw [hmn] at hil
  rw [List.take_of_length_le hil]
  rw [hLn, hlen, hLl]
  have hne : ((l.length : Int) != (l.length : Int)) = false := by simp
  rw [hne]
  conv => whnf
  refine StopG.rounds wk12 [] [1, 3, 4, 5, 6, 11, 12, 13] (fun m env s => ∃ i : Nat, i ≤ l.length ∧ m = l.length - i ∧ env = [(1, .ref (.g 0) 0), (3, .d (.bool true)), (4, .ref (.g 1) 0), (5, .d (.list 5 (rowsE (wonL mem l)))), (6, .d (.int .i64 (((mem.map fun x => (mineL x L).length).sum : Nat) : Int))), (11, .d (.int .i64 (((L.take i).filter nnB).length : Int))), (12, .d (.int .i64 (((l.take i).filter nnB).length : Int))), (13, .d (.int .i64 (i : Int)))] ∧ s = [(0, celR cnt fdr hop mem l), (1, celR cnt fdr hop mem L)]) rfl ?_ ?_
  · conv => whnf
    exact ⟨_, 0, Nat.zero_le _, rfl, rfl, rfl⟩
  clear hil h hi i
  rintro m env s ⟨i, hi, rfl, rfl, rfl⟩
  conv => whnf
  refine bcase_intro (fun h => ?_) (fun h => ?_) <;> conv => whnf
  · have hil := lt_of h
    rw [hLn, hLl] at hil
    obtain ⟨x, hx, _⟩ := at_i hil
    have hX : L[i]? = some (awE mem x) := by rw [← hL, List.getElem?_map, hx]; rfl
    have hc1 := cnt_snoc hX
    have hc2 := cnt_snoc hx
    have hc3 := cnt_le L i
    have hc4 := cnt_le l i
    refine ⟨rowE (awE mem x), ⟨by omega, row_i hX⟩, ?_⟩
    conv => whnf
    refine bcase_intro (fun hg => ?_) (fun hg => ?_) <;> conv => whnf
    · have hg : nnB (awE mem x) = true := hg
      rw [if_pos hg] at hc1
      refine ⟨rowE x, ⟨by omega, row_i hx⟩, ?_⟩
      conv => whnf
      refine bcase_intro (fun hq => ?_) (fun hq => ?_) <;> conv => whnf
      · have hq : nnB x = true := hq
        rw [if_pos hq] at hc2
        have hsame := awE_same (mem := mem) hq
        refine ⟨rowE (awE mem x), ⟨by omega, row_i hX⟩, ?_⟩
        conv => whnf
        refine ⟨rowE x, ⟨by omega, row_i hx⟩, ?_⟩
        conv => whnf
        refine bcase_intro (fun hz => ?_) (fun hz => ?_) <;> conv => whnf
        · rw [hsame] at hz
          simp at hz
        · rw [succ_i hil (by omega), succ_i (i := ((L.take i).filter nnB).length) (Nat.lt_succ_self _) (by omega), succ_i (i := ((l.take i).filter nnB).length) (Nat.lt_succ_self _) (by omega), ← hc1, ← hc2]
          exact ⟨_, by omega, i + 1, hil, rfl, rfl, rfl⟩
      · have hq : nnB x = false := hq
        rw [if_neg (by rw [hq]; decide), Nat.add_zero (List.length _)] at hc2
        rw [succ_i hil (by omega), succ_i (i := ((L.take i).filter nnB).length) (Nat.lt_succ_self _) (by omega), ← hc1, ← hc2]
        exact ⟨_, by omega, i + 1, hil, rfl, rfl, rfl⟩
    · have hg : nnB (awE mem x) = false := hg
      rw [if_neg (by rw [hg]; decide), Nat.add_zero (List.length _)] at hc1
      refine ⟨rowE x, ⟨by omega, row_i hx⟩, ?_⟩
      conv => whnf
      refine bcase_intro (fun hq => ?_) (fun hq => ?_) <;> conv => whnf
      · have hq : nnB x = true := hq
        rw [awE_same hq, hq] at hg
        cases hg
      · have hq : nnB x = false := hq
        rw [if_neg (by rw [hq]; decide), Nat.add_zero (List.length _)] at hc2
        rw [succ_i hil (by omega), ← hc1, ← hc2]
        exact ⟨_, by omega, i + 1, hil, rfl, rfl, rfl⟩
  have hil := ge_of h
  rw [hLn, hLl] at hil
  rw [List.take_of_length_le hil, List.take_of_length_le (by omega)]
  refine .data [awG cnt fdr hop mem L] _ ⟨.refl _, rfl, award cnt fdr hop mem (by omega) L (by omega) hbb2⟩ ?_
  conv => whnf
  refine .data [awG cnt fdr hop mem L, .d (.int .i64 (-1))] _ (fun _ => ⟨.refl _, rfl, mine cnt fdr hop mem L (by omega) (-1)⟩) ?_
  conv => whnf
  refine .data [awG cnt fdr hop mem L, .d (.int .i64 99)] _ (fun _ => ⟨.refl _, rfl, mine cnt fdr hop mem L (by omega) 99⟩) ?_
  conv => whnf
  have a1 : (mem.map fun x => (mineL x L).length).sum = (L.filter nnB).length := by
    have := ok.sum
    rw [hL] at this; exact this
  have a2 : (L.filter nnB).length = (l.filter nnB).length + (wonL mem l).length := by
    have := ok.count
    rw [hL] at this; exact this
  have a3 := ok.again
  have a4 := ok.no1
  have a5 := ok.no99
  rw [hL] at a3 a4 a5
  have hw1 : (wonL mem l).length ≤ 30 := by
    rw [wonL, List.length_map]
    exact Nat.le_trans (List.length_filter_le _ _) (by omega)
  have hw2 : (l.filter nnB).length ≤ 30 := Nat.le_trans (List.length_filter_le _ _) (by omega)
  rw [rowsE_len, add_i (by omega), a1, ← a2, a3, a4, a5]
  refine ⟨?_, rfl⟩
  simp [rowsE, rowsK]
end Go.Proofs.Ytkenimmellonjaa
/- FoundLeast. -/
namespace Go.Proofs.Ytkenimmellonjaa
open Go.Pv Go.RowKit Go.Shelf

theorem num24 (n : Int) (m : Nat) (hm : 0 < m) (hm2 : m ≤ 4611686018427387904) : Contract Try.prog G0 24 [.d (.int .i64 n), .d (.int .i64 (m : Int))] [] (fun r t => r = .d (.int .i64 (numB n m : Int)) ∧ t = []) := number n m hm hm2
def butI (l : List Int) (k : Nat) : List Int := l.take k ++ l.drop (k + 1)
def putsI (l : List Int) : List Int := set6 (l.map fun x => ((numB x 16 : Nat) : Int))
theorem putsI_inc (l : List Int) : IncI (putsI l) := by unfold putsI; rw [set6_eq]; exact setI_inc _
theorem memb_but {l : List Int} (h : IncI l) {k : Nat} {x : Int} (hx : l[k]? = some x) : membI (butI l k) x = l := by
  refine inc_eq (setI_inc _) h fun y => ?_
  obtain ⟨hk, hkx⟩ := List.getElem?_eq_some_iff.1 hx
  have e : l = l.take k ++ x :: l.drop (k + 1) := by
    conv => lhs; rw [← List.take_append_drop k l, List.drop_eq_getElem_cons hk, hkx]
  rw [membI, setI_mem, butI]
  conv => rhs; rw [e]
  simp only [List.mem_append, List.mem_cons]
  constructor
  · rintro ((h | h) | h)
    · exact .inl h
    · exact .inr (.inr h)
    · rcases h with h | h
      · exact .inr (.inl h)
      · cases h
  · rintro (h | h | h)
    · exact .inl (.inl h)
    · exact .inr (.inl h)
    · exact .inl (.inr h)
def wantI (since waited : Int) (inr : Bool) : Bool := bif decide (waited > 72) then (bif !inr then true else decide (since > 72)) else false
theorem pat16 : patI 16 = 72 := by decide
theorem should_at {l : List Int} (h : IncI l) {k : Nat} {x : Int} (hx : l[k]? = some x) (since waited : Int) (inr : Bool) :
    shouldI x 16 false inr (butI l k) (if inr then l else []) since waited = (bif k == 0 then wantI since waited inr else false) := by
  unfold shouldI wantI
  rw [memb_but h hx, pat16]
  obtain ⟨hk, hkx⟩ := List.getElem?_eq_some_iff.1 hx
  have hw : decide (waited ≤ 72) = !decide (waited > 72) := by
    rw [← decide_not]
    congr 1
    exact propext ⟨fun h => by omega, fun h => by omega⟩
  rw [hw]
  cases k with
  | zero =>
    have : headI l = x := by simp [headI, hx]
    rw [this]
    cases inr <;> cases decide (waited > 72) <;> simp
  | succ k =>
    have : (headI l == x) = false := by
      have h0 : 0 < l.length := by omega
      have h1 : headI l = l[0] := by simp [headI, List.getElem?_eq_getElem h0]
      have h2 := List.pairwise_iff_getElem.1 h 0 (k + 1) h0 hk (by omega)
      rw [h1]
      rw [hkx] at h2
      simp
      omega
    rw [this]
    simp
/-- The others, so far. -/
def butN (l : List Int) (k i : Nat) : List Int := (butI (l.take i) k)
theorem butN_step {l : List Int} {k i : Nat} {x : Int} (hx : l[i]? = some x) : butN l k (i + 1) = if i = k then butN l k i else butN l k i ++ [x] := by
  have hi := (List.getElem?_eq_some_iff.1 hx).1
  unfold butN butI
  rw [List.take_add_one, hx]
  simp only [Option.toList_some]
  have hl : (l.take i).length = i := by rw [List.length_take]; omega
  split
  · rename_i h
    subst h
    rw [List.take_append_of_le_length (by omega), List.drop_append, hl, List.drop_eq_nil_of_le (by omega)]
    simp
  · rename_i h
    rcases Nat.lt_or_ge i k with h1 | h1
    · rw [List.take_of_length_le (l := l.take i ++ [x]) (by simp; omega), @List.drop_eq_nil_of_le _ (l.take i ++ [x]) _ (by simp; omega), List.take_of_length_le (l := l.take i) (by omega), @List.drop_eq_nil_of_le _ (l.take i) _ (by omega)]
      simp
    · rw [List.take_append_of_le_length (by omega), List.drop_append_of_le_length (by omega), List.append_assoc]
theorem putsI_take {l : List Int} {i : Nat} {x : Int} (hx : l[i]? = some x) : putsI (l.take (i + 1)) = putI (putsI (l.take i)) ((numB x 16 : Nat) : Int) := by
  unfold putsI set6
  rw [List.take_add_one, hx]
  simp [List.foldl_append]
theorem putsI_len (l : List Int) : (putsI l).length ≤ l.length := by
  have := set6_len (l.map fun x => ((numB x 16 : Nat) : Int))
  simpa [putsI] using this
abbrev EnvL (l all : List Int) (since waited : Int) (inr : Bool) (n : Int) (k : Nat) : Env :=
  [(0, .d (.list 1 (rowsI l))), (1, .d (.int .i64 since)), (2, .d (.int .i64 waited)), (3, .d (.bool inr)), (9, .d (.bool true)), (10, .d (.int .i64 16)), (11, .d (.list 1 (rowsI all))), (13, .d (.int .i64 n)), (14, .d (.int .i64 (k : Int)))]
set_option maxRecDepth 100000 in
theorem foundLeast (l : List Int) (since0 waited0 : Int) (inr : Bool) : Contract Try.prog G0 7 [.d (.list 1 (rowsI l)), .d (.int .i64 since0), .d (.int .i64 waited0), .d (.bool inr)] [] (fun r t => r = .d (.bool true) ∧ t = []) := by
  have hlen := rowsI_len l
  refine run7 0 [] rfl rfl ?_
  conv => whnf
  refine .scal [] _ ⟨.refl _, rfl, first31⟩ ?_
  conv => whnf
  refine bcase_intro (fun h => ?_) (fun h => ?_) <;> conv => whnf
  · exact ⟨rfl, rfl⟩
  have hl : 0 < l.length ∧ l.length ≤ 16 := by
    rw [hlen] at h
    rcases Nat.eq_zero_or_pos l.length with h1 | h1
    · rw [h1] at h
      cases h
    · rw [show ((l.length : Int) == 0) = false by rw [beq_eq_false_iff_ne]; omega] at h
      have := of_decide_eq_false h
      omega
  obtain ⟨hl0, hl⟩ := hl
  clear h
  refine .scal [.d (.int .i64 since0), .d (.int .i64 ((200 : Nat) : Int))] _ ⟨.refl _, rfl, num24 since0 200 (by omega) (by omega)⟩ ?_
  generalize ((numB since0 200 : Nat) : Int) = since
  conv => whnf
  refine .scal [.d (.int .i64 waited0), .d (.int .i64 ((200 : Nat) : Int))] _ ⟨.refl _, rfl, num24 waited0 200 (by omega) (by omega)⟩ ?_
  generalize ((numB waited0 200 : Nat) : Int) = waited
  conv => whnf
  -- the numbers, as a set
  refine StopG.roundsM wk7 [] [0, 1, 2, 3, 9, 10, 11, 12] (fun m env s => ∃ i : Nat, i ≤ l.length ∧ m = l.length - i ∧
    env = [(0, .d (.list 1 (rowsI l))), (1, .d (.int .i64 since)), (2, .d (.int .i64 waited)), (3, .d (.bool inr)), (9, .d (.bool true)), (10, .d (.int .i64 16)), (11, .d (.list 1 (rowsI (putsI (l.take i))))), (12, .d (.int .i64 (i : Int)))] ∧ s = []) rfl ?_ ?_
  · refine ⟨_, _, GV.wk 11 1, ?_⟩
    conv => whnf
    exact ⟨_, 0, Nat.zero_le _, rfl, rfl, rfl⟩
  rintro m env s ⟨i, hi, rfl, rfl, rfl⟩
  conv => whnf
  refine bcase_intro (fun h => ?_) (fun h => ?_) <;> conv => whnf
  · have h := lt_of h
    rw [hlen] at h
    obtain ⟨x, hx, hdrop⟩ := at_i h
    refine ⟨rowI x, ⟨by omega, row_i hx⟩, ?_⟩
    conv => whnf
    refine .scal [.d (.int .i64 x), .d (.int .i64 ((16 : Nat) : Int))] _ ⟨.refl _, rfl, num24 x 16 (by omega) (by omega)⟩ ?_
    conv => whnf
    have h6 := putsI_len (l.take i)
    rw [List.length_take] at h6
    refine .data [.d (.list 1 (rowsI (putsI (l.take i)))), .d (.int .i64 ((numB x 16 : Nat) : Int))] _ ⟨WkL.refl _, rfl, put39 _ _ (by omega)⟩ ?_
    rw [← putsI_take hx]
    conv => whnf
    refine ⟨_, _, .refl, ?_⟩
    conv => whnf
    rw [succ_i h (by omega)]
    exact ⟨_, by omega, i + 1, h, rfl, rfl, rfl⟩
  · have h := ge_of h
    rw [hlen] at h
    rw [List.take_of_length_le h]
    have hainc := putsI_inc l
    have halen := putsI_len l
    have hane : 0 < (putsI l).length := by
      cases l with
      | nil => simp at hl0
      | cons x r => exact List.length_pos_of_mem (a := ((numB x 16 : Nat) : Int)) (((foldPut _ [] .nil).2.1 _).2 (.inr (by simp)))
    clear h
    generalize putsI l = all at hainc halen hane
    have hal := rowsI_len all
    -- each of them
    refine StopG.rounds wk7 [] [0, 1, 2, 3, 9, 10, 11, 13, 14] (fun m env s => ∃ k : Nat, k ≤ all.length ∧ m = all.length - k ∧
      env = EnvL l all since waited inr (if 0 < k then (if wantI since waited inr then 1 else 0) else 0) k ∧ s = []) rfl ?_ ?_
    · conv => whnf
      exact ⟨_, 0, Nat.zero_le _, rfl, rfl, rfl⟩
    rintro m env s ⟨k, hk, rfl, rfl, rfl⟩
    conv => whnf
    refine bcase_intro (fun h => ?_) (fun h => ?_) <;> conv => whnf
    · have h := lt_of h
      rw [hal] at h
      obtain ⟨x, hx, hdrop⟩ := at_i h
      have hkb : ∀ i, i ≤ all.length → (butN all k i).length ≤ 16 := fun i hi => by
        unfold butN butI
        rw [List.length_append, List.length_take, List.length_drop, List.length_take]
        omega
      have hb0 : butN all k 0 = [] := by simp [butN, butI]
      refine StopG.roundsS wk7 [] [0, 1, 2, 3, 9, 10, 11, 13, 14, 15, 16] (fun m env s => ∃ (i : Nat) (v : AV), i ≤ all.length ∧ m = all.length - i ∧
        ((butN all k i = [] ∧ v = .d .nil ∧ s = []) ∨ ∃ c, (butN all k i).length ≤ c ∧ v = .slc (.g 0) 1 0 (butN all k i).length c ∧ s = [(0, .row 1 (rowsI (butN all k i)))]) ∧
        env = EnvL l all since waited inr (if 0 < k then (if wantI since waited inr then 1 else 0) else 0) k ++ [(15, v), (16, .d (.int .i64 (i : Int)))]) rfl ?_ ?_
      · conv => whnf
        exact ⟨_, 0, _, Nat.zero_le _, rfl, .inl ⟨hb0, rfl, rfl⟩, rfl⟩
      rintro m env s ⟨i, v, hi, rfl, hv, rfl⟩
      rcases Nat.lt_or_ge i all.length with h2 | h2
      · obtain ⟨y, hy, hdrop2⟩ := at_i h2
        have hst := butN_step (k := k) hy
        have hkb2 := hkb i (by omega)
        have hdec : decide ((i : Int) < ((rowsI all).length : Int)) = true := decide_eq_true (by omega)
        refine .go wk7 [] ?_
        rcases hv with ⟨hv1, rfl, rfl⟩ | ⟨c, hc, rfl, rfl⟩
        · conv => whnf
          rw [hdec]
          conv => whnf
          rw [hv1] at hst
          refine bcase_intro (fun hik => ?_) (fun hik => ?_) <;> conv => whnf
          · have hik : (i : Int) ≠ (k : Int) := by simpa using hik
            have hik : i ≠ k := by omega
            rw [if_neg hik] at hst
            refine ⟨rowI y, ⟨by omega, row_i hy⟩, ?_⟩
            conv => whnf
            refine ⟨⟨show (2 * 1 + 1024) * 8 ≤ 281474976710656 by omega, show 1 ≤ 4611686018427387904 by omega⟩, ?_⟩
            conv => whnf
            intro c2 hc2
            conv => whnf
            rw [succ_i h2 (by omega)]
            exact ⟨_, by omega, i + 1, _, h2, rfl, .inr ⟨c2, by rw [hst]; exact hc2, by rw [hst]; rfl, by rw [hst]; rfl⟩, rfl⟩
          · have hik : (i : Int) = (k : Int) := by simpa using hik
            have hik : i = k := by omega
            rw [if_pos hik] at hst
            rw [succ_i h2 (by omega)]
            exact ⟨_, by omega, i + 1, _, h2, rfl, .inl ⟨by rw [hst], rfl, rfl⟩, rfl⟩
        · conv => whnf
          rw [hdec]
          conv => whnf
          refine bcase_intro (fun hik => ?_) (fun hik => ?_) <;> conv => whnf
          · have hik : (i : Int) ≠ (k : Int) := by simpa using hik
            have hik : i ≠ k := by omega
            rw [if_neg hik] at hst
            refine ⟨rowI y, ⟨by omega, row_i hy⟩, ?_⟩
            conv => whnf
            refine ⟨by rw [rowsI_len]; exact Nat.le_refl _, ⟨?_, ?_⟩, ?_⟩
            · show (2 * ((butN all k i).length + 1) + 1024) * 8 ≤ 281474976710656; omega
            · show (butN all k i).length + 1 ≤ _; omega
            conv => whnf
            intro c2 hc2
            conv => whnf
            rw [succ_i h2 (by omega)]
            refine ⟨_, by omega, i + 1, _, h2, rfl, .inr ⟨c2, by rw [hst]; simpa using hc2, by rw [hst]; simp, ?_⟩, rfl⟩
            rw [hst, List.take_of_length_le (by rw [rowsI_len]; exact Nat.le_refl _)]
            simp [rowsI, rowI]
          · have hik : (i : Int) = (k : Int) := by simpa using hik
            have hik : i = k := by omega
            rw [if_pos hik] at hst
            rw [succ_i h2 (by omega)]
            exact ⟨_, by omega, i + 1, _, h2, rfl, .inr ⟨c, by rw [hst]; exact hc, by rw [hst], by rw [hst]⟩, rfl⟩
      · have hil : i = all.length := by omega
        have hbt : butN all k i = butI all k := by rw [hil]; simp [butN]
        have hkb2 := hkb i (by omega)
        have hdec : decide ((i : Int) < ((rowsI all).length : Int)) = false := decide_eq_false (by omega)
        rw [hbt] at hv hkb2
        have hshould := should_at hainc hx since waited inr
        generalize butI all k = oth at hv hkb2 hshould
        have hol := rowsI_len oth
        refine .ghost (env' := EnvL l all since waited inr (if 0 < k then (if wantI since waited inr then 1 else 0) else 0) k ++ [(15, .d (.list 1 (rowsI oth))), (16, .d (.int .i64 (i : Int)))]) (s' := []) ?_ (.go wk7 [] ?_)
        · rcases hv with ⟨rfl, rfl, rfl⟩ | ⟨c, hc, rfl, rfl⟩
          · exact GV.wk 15 1
          · refine GV.trans (GV.freeze 0 rfl (by simp) (by repeat' first | exact trivial | apply And.intro | decide | (simp; done) | omega) (by repeat' first | exact trivial | apply And.intro)) (GV.tidied [0, 1, 2, 3, 9, 10, 11, 13, 14, 15, 16] ?_)
            conv => whnf
            rw [List.drop_zero, List.take_of_length_le (by omega)]
            exact ⟨rfl, rfl⟩
        conv => whnf
        rw [hdec]
        conv => whnf
        refine ⟨rowI x, ⟨by omega, row_i hx⟩, ?_⟩
        conv => whnf
        have hn2 : (if 0 < k then (if wantI since waited inr then (1 : Int) else 0) else 0) = 0 ∨ 0 < k := by
          rcases Nat.eq_zero_or_pos k with h0 | h0
          · exact .inl (by rw [if_neg (by omega)])
          · exact .inr h0
        have fin : ∀ (q : Bool), q = (bif k == 0 then wantI since waited inr else false) → (q = true → k = 0 ∧ wantI since waited inr = true) ∧ (q = false → k = 0 → wantI since waited inr = false) := by
          rintro q rfl
          cases k with
          | zero => exact ⟨fun h => ⟨rfl, h⟩, fun h _ => h⟩
          | succ k => exact ⟨(fun h => by cases h), (fun _ h => by cases h)⟩
        have fin := fin _ hshould
        refine bcase_intro (fun hin => ?_) (fun hin => ?_) <;> conv => whnf
        · subst hin
          refine .scal [cV x 16 false true oth all since waited] _ ⟨.a (.s _ (.s _ (.s _ (.s _ (.s _ (.s _ (.s _ (.s _ .nil)))))))) .nil, rfl, should32 x 16 false true oth all since waited (by omega) (by omega)⟩ ?_
          rw [if_pos rfl] at fin
          generalize shouldI x 16 false true oth all since waited = q at fin
          conv => whnf
          refine bcase_intro (fun hw => ?_) (fun hw => ?_)
          · obtain ⟨rfl, hw2⟩ := fin.1 hw
            conv => whnf
            exact ⟨_, by omega, 1, by omega, rfl, by rw [hw2]; rfl, rfl⟩
          · conv => whnf
            rw [succ_i h (by omega)]
            refine ⟨_, by omega, k + 1, by omega, rfl, ?_, rfl⟩
            cases k with
            | zero => rw [fin.2 hw rfl]; rfl
            | succ k => rfl
        · subst hin
          refine .scal [cV x 16 false false oth [] since waited] _ ⟨.a (.s _ (.s _ (.s _ (.s _ (.s _ (.n 1 (.s _ (.s _ .nil)))))))) .nil, rfl, should32 x 16 false false oth [] since waited (by omega) (by simp)⟩ ?_
          rw [if_neg (by simp)] at fin
          generalize shouldI x 16 false false oth [] since waited = q at fin
          conv => whnf
          refine bcase_intro (fun hw => ?_) (fun hw => ?_)
          · obtain ⟨rfl, hw2⟩ := fin.1 hw
            conv => whnf
            exact ⟨_, by omega, 1, by omega, rfl, by rw [hw2]; rfl, rfl⟩
          · conv => whnf
            rw [succ_i h (by omega)]
            refine ⟨_, by omega, k + 1, by omega, rfl, ?_, rfl⟩
            cases k with
            | zero => rw [fin.2 hw rfl]; rfl
            | succ k => rfl
    · have h := ge_of h
      rw [hal] at h
      have hk0 : 0 < k := by omega
      rw [if_pos hk0]
      refine .scal [.d (.int .i64 16)] _ ⟨.refl _, rfl, pat37 16⟩ ?_
      rw [pat16]
      conv => whnf
      refine .scal [.d (.int .i64 16)] _ (fun _ => ⟨.refl _, rfl, pat37 16⟩) ?_
      rw [pat16]
      conv => whnf
      refine ⟨rd_bool ?_, rfl⟩
      have hwd : wantI since waited inr = (bif decide (waited > 72) then (bif !inr then true else decide (since > 72)) else false) := rfl
      rw [← hwd]
      cases wantI since waited inr <;> rfl
end Go.Proofs.Ytkenimmellonjaa
/- Seat r2: who wants what: the walk. -/
namespace Go.Proofs.Ytkenimmellonjaa
open Go.Pv Go.RowKit Go.Shelf
set_option maxRecDepth 100000 in
theorem ledgerWants (cnt fdr hop : Int) (mem : List Int) (l : List En) (hl : l.length ≤ maxLen) (n : Int) : Contract Try.prog G0 14 [awG cnt fdr hop mem l, .d (.int .i64 n)] [] (fun r t => r = .d (.bool true) ∧ t = []) := by
  refine run14 0 [] rfl rfl ?_
  conv => whnf
  refine .scal [] _ ⟨.refl _, rfl, first47⟩ ?_
  conv => whnf
  refine .scal [awG cnt fdr hop mem l] _ ⟨.refl _, rfl, light cnt fdr hop mem l hl⟩ ?_
  conv => whnf
  refine bcase_intro (fun hli => ?_) (fun hli => ?_) <;> conv => whnf
  · exact ⟨rfl, rfl⟩
  have hli : lightB cnt fdr hop mem l = true := by simpa using hli
  have ok := light_ok hli
  have hlen := rowsE_len l
  have hmn := rowsI_len mem
  have hm := ok.ml
  have hl := ok.ll
  have hbb : ∀ e ∈ l, e.bids.length ≤ 100000 := fun e he => Nat.le_trans (ok.bl e he) (by decide)
  refine .scal [.d (.int .i64 n), .d (.int .i64 16)] _ ⟨.refl _, rfl, num24 n 16 (by decide) (by decide)⟩ ?_
  conv => whnf
  have hok := want_ok hli (numB n 16 : Int)
  generalize (numB n 16 : Int) = car at hok
  refine .data [awG cnt fdr hop mem l, .d (.int .i64 car)] _ ⟨.refl _, rfl, wants cnt fdr hop mem (by omega) l (by omega) hbb car⟩ ?_
  conv => whnf
  refine .scal [.d (.list 1 (rowsI mem)), .d (.int .i64 car)] _ ⟨.refl _, rfl, among mem (by omega) car⟩ ?_
  conv => whnf
  have hWl := want_len mem car l
  have hWr := rowsC_len (wantL mem car l)
  refine StopG.rounds wk14 [] [1, 2, 5, 6, 7, 8, 9] (fun m env s => ∃ i : Nat, i ≤ l.length ∧ m = l.length - i ∧ env = [(1, .d (.int .i64 car)), (2, .ref (.g 0) 0), (5, .d (.bool true)), (6, .d (.list 2 (rowsC (wantL mem car l)))), (7, .d (.bool (mem.any fun y => y == car))), (8, .d (.int .i64 (((wantL mem car (l.take i)).length : Nat) : Int))), (9, .d (.int .i64 (i : Int)))] ∧ s = [(0, celR cnt fdr hop mem l)]) rfl ?_ ?_
  · conv => whnf
    have h0 : wantL mem car ([] : List En) = [] := by rw [want_eq]; rfl
    exact ⟨_, 0, Nat.zero_le _, rfl, by rw [List.take_zero, h0]; rfl, rfl⟩
  rintro m env s ⟨i, hi, rfl, rfl, rfl⟩
  have hWi : (wantL mem car (l.take i)).length ≤ 30 := Nat.le_trans (want_len _ _ _) (by simp; omega)
  conv => whnf
  refine bcase_intro (fun h => ?_) (fun h => ?_) <;> conv => whnf
  · have hil := lt_of h
    rw [hlen] at hil
    obtain ⟨x, hx, _⟩ := at_i hil
    have hxb := ok.bl x (List.mem_of_getElem? hx)
    have hxr := rowsB_len x.bids
    refine StopG.rounds wk14 [] [1, 2, 5, 6, 7, 8, 9, 10, 11] (fun m env s => ∃ a : Nat, a ≤ x.bids.length ∧ m = x.bids.length - a ∧ env = [(1, .d (.int .i64 car)), (2, .ref (.g 0) 0), (5, .d (.bool true)), (6, .d (.list 2 (rowsC (wantL mem car l)))), (7, .d (.bool (mem.any fun y => y == car))), (8, .d (.int .i64 (((wantL mem car (l.take i)).length : Nat) : Int))), (9, .d (.int .i64 (i : Int))), (10, .d (.bool ((x.bids.take a).any fun b => b.1 == car))), (11, .d (.int .i64 (a : Int)))] ∧ s = [(0, celR cnt fdr hop mem l)]) rfl ?_ ?_
    · conv => whnf
      exact ⟨_, 0, Nat.zero_le _, rfl, rfl, rfl⟩
    rintro m env s ⟨a, ha, rfl, rfl, rfl⟩
    conv => whnf
    refine ⟨rowE x, ⟨by omega, row_i hx⟩, ?_⟩
    conv => whnf
    refine bcase_intro (fun h => ?_) (fun h => ?_) <;> conv => whnf
    · have hal := lt_of h
      rw [hxr] at hal
      obtain ⟨b, hbx, _⟩ := at_i hal
      refine ⟨rowE x, fun _ => ⟨by omega, row_i hx⟩, ?_⟩
      conv => whnf
      refine ⟨rowB b, fun _ => ⟨by omega, row_i hbx⟩, ?_⟩
      conv => whnf
      rw [succ_i hal (by omega)]
      refine ⟨_, by omega, a + 1, hal, rfl, ?_, rfl⟩
      rw [List.take_add_one, hbx, List.any_append]
      simp only [Option.toList, List.any_cons, List.any_nil, Bool.or_false]
      cases ((x.bids.take a).any fun b => b.1 == car) <;> rfl
    have hal := ge_of h
    rw [hxr] at hal
    rw [List.take_of_length_le hal]
    refine ⟨rowE x, fun _ => ⟨by omega, row_i hx⟩, ?_⟩
    conv => whnf
    refine bcase_intro (fun hg => ?_) (fun hg => ?_) <;> conv => whnf
    · have hon : onB mem car x = true := hg
      rw [succ_i hil (by omega)]
      exact ⟨_, by omega, i + 1, hil, rfl, by rw [want_skip hx hon], rfl⟩
    have hon : onB mem car x = false := hg
    have hat := want_at hx hon
    have hlt := (List.getElem?_eq_some_iff.1 hat).1
    refine ⟨rowC (callE x), fun _ => ⟨by omega, row_i hat⟩, ?_⟩
    conv => whnf
    refine ⟨rowE x, fun _ => ⟨by omega, row_i hx⟩, ?_⟩
    conv => whnf
    refine .scal [calV x.fl x.dr, calV x.fl x.dr] _ (fun _ => ⟨.refl _, rfl, sameCall _ _ _ _⟩) ?_
    conv => whnf
    refine bcase_intro (fun hq => ?_) (fun hq => ?_) <;> conv => whnf
    · rw [hWr, show decide (((wantL mem car (l.take i)).length : Int) ≥ ((wantL mem car l).length : Int)) = false from decide_eq_false (by omega)] at hq
      simp at hq
    rw [succ_i hil (by omega), succ_i (i := (wantL mem car (l.take i)).length) (Nat.lt_succ_self _) (by omega)]
    exact ⟨_, by omega, i + 1, hil, rfl, by rw [want_more hx hon, List.length_append]; rfl, rfl⟩
  have hil := ge_of h
  rw [hlen] at hil
  rw [List.take_of_length_le hil, hWr, show (((wantL mem car l).length : Int) != ((wantL mem car l).length : Int)) = false by simp]
  conv => whnf
  generalize hW : wantL mem car l = W at hok hWl hWr
  refine StopG.rounds wk14 [] [1, 2, 5, 6, 12, 13] (fun m env s => ∃ k : Nat, k ≤ W.length ∧ m = W.length - k ∧ env = [(1, .d (.int .i64 car)), (2, .ref (.g 0) 0), (5, .d (.bool true)), (6, .d (.list 2 (rowsC W))), (12, .ref (.g 1) 0), (13, .d (.int .i64 (k : Int)))] ∧ s = [(0, celR cnt fdr hop mem l), (1, celR cnt fdr hop mem (bidsL mem car W l k))]) rfl ?_ ?_
  · conv => whnf
    exact ⟨_, 0, Nat.zero_le _, rfl, rfl, rfl⟩
  rintro m env s ⟨k, hk, rfl, rfl, rfl⟩
  have hsl : (bidsL mem car W l k).length = l.length := by have := (hok.sane k (by rw [hW]; exact hk)).1; rwa [hW] at this
  have hsb : ∀ e ∈ bidsL mem car W l k, e.bids.length ≤ 16 + k := by have := (hok.sane k (by rw [hW]; exact hk)).2; rwa [hW] at this
  conv => whnf
  refine bcase_intro (fun h => ?_) (fun h => ?_) <;> conv => whnf
  · have hkl := lt_of h
    rw [hWr] at hkl
    obtain ⟨c, hc, _⟩ := at_i hkl
    refine ⟨rowC c, ⟨by omega, row_i hc⟩, ?_⟩
    conv => whnf
    refine .data [awG cnt fdr hop mem (bidsL mem car W l k), bidv (car, (k : Int)), calV c.1 c.2] _ ⟨WkL.refl _, rfl, bid cnt fdr hop mem (by omega) _ (by omega) (fun e he => Nat.le_trans (hsb e he) (by omega)) (car, (k : Int)) c⟩ ?_
    conv => whnf
    have hst := hok.step k c (by rw [hW]; exact hc)
    rw [hW] at hst
    have hnx : bidsL mem car W l (k + 1) = (bidL mem (car, (k : Int)) c (bidsL mem car W l k)).1 := by
      show (match W[k]? with | some c => _ | none => _) = _
      rw [hc]
    have hsan := hok.sane (k + 1) (by rw [hW]; exact hkl)
    rw [hW] at hsan
    rw [hnx] at hst hsan
    refine .data [awG cnt fdr hop mem (bidL mem (car, (k : Int)) c (bidsL mem car W l k)).1, .d (.int .i64 car)] _ (fun _ => ⟨WkL.refl _, rfl, wants cnt fdr hop mem (by omega) _ (by omega) (fun e he => Nat.le_trans (hsan.2 e he) (by omega)) car⟩) ?_
    conv => whnf
    refine bcase_intro (fun hg => ?_) (fun hg => ?_) <;> conv => whnf
    · rw [hst.1, rowsC_len, hst.2, hWr, wrap_id (n := (W.length : Int) - (k : Int)) (by omega) (by omega), wrap_id (n := (W.length : Int) - (k : Int) - 1) (by omega) (by omega), show ((W.length - k - 1 : Nat) : Int) = (W.length : Int) - (k : Int) - 1 by omega] at hg
      simp at hg
    · rw [succ_i hkl (by omega), ← hnx]
      exact ⟨_, by omega, k + 1, hkl, rfl, rfl, rfl⟩
  · refine ⟨?_, rfl⟩
    rw [rowsE_len, hsl, hlen]
    simp
end Go.Proofs.Ytkenimmellonjaa
/- Seat r2: ring by ring: the walk. -/
namespace Go.Proofs.Ytkenimmellonjaa
open Go.Pv Go.RowKit Go.Shelf
theorem mul_i {a b : Nat} (h : a * b ≤ 1000000) : IntKind.wrap .i64 ((a : Int) * (b : Int)) = ((a * b : Nat) : Int) := by
  rw [show (a : Int) * (b : Int) = ((a * b : Nat) : Int) by simp]
  exact wrap_id (by omega) (by omega)
theorem mod_i {a b : Nat} : ((a : Int)).tmod (b : Int) = ((a % b : Nat) : Int) := by
  rw [Int.tmod_eq_emod_of_nonneg (by omega)]
  simp
set_option maxHeartbeats 4000000 in
set_option maxRecDepth 100000 in
theorem ledgerOnce (ms : List Int) (lit : List Kt) (ticks : List Int) (rounds : Int) :
    Contract Try.prog G0 17 [.d (.list 1 (rowsI ms)), .d (.list 3 (rowsK lit)), .d (.list 1 (rowsI ticks)), .d (.int .i64 rounds)] [] (fun r t => r = .d (.bool true) ∧ t = []) := by
  have hml := rowsI_len ms
  have hll := rowsK_len lit
  have htl := rowsI_len ticks
  refine run17 0 [] rfl rfl ?_
  conv => whnf
  refine .scal [] _ ⟨.refl _, rfl, first47⟩ ?_
  conv => whnf
  refine bcase_intro (fun hg => ?_) (fun hg => ?_) <;> conv => whnf
  · exact ⟨rfl, rfl⟩
  obtain ⟨hg, hg4⟩ := bor0 hg
  obtain ⟨hg, hg3⟩ := bor0 hg
  obtain ⟨hg1, hg2⟩ := bor0 hg
  rw [hml] at hg1 hg2
  rw [hll] at hg3
  rw [htl] at hg4
  have hm0 : 0 < ms.length := by
    have : (ms.length : Int) ≠ 0 := by simpa using hg1
    omega
  have hm8 : ms.length ≤ 8 := by have := of_decide_eq_false hg2; omega
  have hl12 : lit.length ≤ 12 := by have := of_decide_eq_false hg3; omega
  have ht60 : ticks.length ≤ 60 := by have := of_decide_eq_false hg4; omega
  clear hg1 hg2 hg3 hg4 hg
  refine StopG.rounds wk17 [] [0, 1, 2, 3, 9, 10] (fun m env s => ∃ i : Nat, i ≤ ms.length ∧ m = ms.length - i ∧ (∀ x ∈ ms.take i, 0 ≤ x) ∧ env = [(0, .d (.list 1 (rowsI ms))), (1, .d (.list 3 (rowsK lit))), (2, .d (.list 1 (rowsI ticks))), (3, .d (.int .i64 rounds)), (9, .d (.bool true)), (10, .d (.int .i64 (i : Int)))] ∧ s = []) rfl ?_ ?_
  · conv => whnf
    exact ⟨_, 0, Nat.zero_le _, rfl, (by simp), rfl, rfl⟩
  rintro m env s ⟨i, hi, rfl, hpos, rfl, rfl⟩
  conv => whnf
  refine bcase_intro (fun h => ?_) (fun h => ?_) <;> conv => whnf
  · have hil := lt_of h
    rw [hml] at hil
    obtain ⟨x, hx, _⟩ := at_i hil
    refine ⟨rowI x, ⟨by omega, row_i hx⟩, ?_⟩
    conv => whnf
    refine ⟨rowI x, (fun _ => ⟨by omega, row_i hx⟩), ?_⟩
    conv => whnf
    refine bcase_intro (fun hg => ?_) (fun hg => ?_) <;> conv => whnf
    · exact ⟨rfl, rfl⟩
    have hx0 : 0 ≤ x := by have := of_decide_eq_false (bor0 hg).1; omega
    rw [succ_i hil (by omega)]
    refine ⟨_, by omega, i + 1, hil, rfl, fun y hy => ?_, rfl, rfl⟩
    rw [List.take_add_one, hx] at hy
    rcases List.mem_append.1 hy with hy | hy
    · exact hpos y hy
    · rw [show y = x by simpa using hy]; exact hx0
  have hil := ge_of h
  rw [hml] at hil
  rw [List.take_of_length_le hil] at hpos
  clear hil hi h
  refine StopG.rounds wk17 [] [0, 1, 2, 3, 9, 11] (fun m env s => ∃ j : Nat, j ≤ lit.length ∧ m = lit.length - j ∧ env = [(0, .d (.list 1 (rowsI ms))), (1, .d (.list 3 (rowsK lit))), (2, .d (.list 1 (rowsI ticks))), (3, .d (.int .i64 rounds)), (9, .d (.bool true)), (11, .d (.int .i64 (j : Int)))] ∧ s = []) rfl ?_ ?_
  · conv => whnf
    exact ⟨_, 0, Nat.zero_le _, rfl, rfl, rfl⟩
  rintro m env s ⟨j, hj, rfl, rfl, rfl⟩
  conv => whnf
  refine bcase_intro (fun h => ?_) (fun h => ?_) <;> conv => whnf
  · have hjl := lt_of h
    rw [hll] at hjl
    obtain ⟨k, hk, _⟩ := at_i hjl
    refine ⟨rowK k, ⟨by omega, row_i hk⟩, ?_⟩
    conv => whnf
    refine ⟨rowK k, (fun _ => ⟨by omega, row_i hk⟩), ?_⟩
    conv => whnf
    refine ⟨rowK k, (fun _ => ⟨by omega, row_i hk⟩), ?_⟩
    conv => whnf
    refine ⟨rowK k, (fun _ => ⟨by omega, row_i hk⟩), ?_⟩
    conv => whnf
    refine ⟨rowK k, (fun _ => ⟨by omega, row_i hk⟩), ?_⟩
    conv => whnf
    refine ⟨rowK k, (fun _ => ⟨by omega, row_i hk⟩), ?_⟩
    conv => whnf
    refine bcase_intro (fun hg => ?_) (fun hg => ?_) <;> conv => whnf
    · exact ⟨rfl, rfl⟩
    rw [succ_i hjl (by omega)]
    exact ⟨_, by omega, j + 1, hjl, rfl, rfl, rfl⟩
  clear hj h
  refine .data [epoV 3 1, .d (.list 1 (rowsI ms))] _ ⟨.refl _, rfl, new 3 1 ms (by omega)⟩ ?_
  have hinc := setI_inc ms
  have hsl := setI_len ms
  have hmm : ∀ x, x ∈ setI ms ↔ x ∈ ms := fun x => setI_mem ms x
  have hmn : 0 < (setI ms).length := by
    obtain ⟨x, hx, _⟩ := at_i hm0
    exact List.length_pos_of_mem ((hmm x).2 (List.mem_of_getElem? hx))
  have hp0 : ∀ x ∈ setI ms, 0 ≤ x := fun x hx => hpos x ((hmm x).1 hx)
  generalize setI ms = mem at hinc hsl hmm hmn hp0
  have hnd : mem.Nodup := by
    refine List.Pairwise.imp (R := (· < ·)) (fun {a b} h => by omega) ?_
    exact hinc
  conv => whnf
  have hmr := rowsI_len mem
  obtain ⟨rn, hrn⟩ : ∃ rn, numB rounds 12 = rn := ⟨_, rfl⟩
  have hr12 : rn < 12 := by rw [← hrn]; exact numB_lt rounds (by decide)
  have hnum := num24 rounds 12 (by decide) (by decide)
  rw [hrn] at hnum
  have hR : rn * mem.length ≤ 88 := Nat.le_trans (Nat.mul_le_mul (show rn ≤ 11 by omega) (show mem.length ≤ 8 by omega)) (by decide)
  refine StopG.rounds wk17 [] [1, 2, 3, 9, 12, 13, 14] (fun m env s => ∃ (i a : Nat) (l : List En), i ≤ rn * mem.length ∧ m = rn * mem.length - i ∧ a ≤ 60 ∧ OnceI mem lit l ∧ (l = [] ∨ OnceH lit l) ∧
    env = [(1, .d (.list 3 (rowsK lit))), (2, .d (.list 1 (rowsI ticks))), (3, .d (.int .i64 rounds)), (9, .d (.bool true)), (12, .ref (.g 0) 0), (13, .d (.int .i64 (a : Int))), (14, .d (.int .i64 (i : Int)))] ∧ s = [(0, celR 3 1 (i : Int) mem l)]) rfl ?_ ?_
  · conv => whnf
    exact ⟨_, 0, 0, [], Nat.zero_le _, rfl, Nat.zero_le _, ⟨(by simp), List.Pairwise.nil, (by simp), Nat.zero_le _⟩, .inl rfl, rfl, rfl⟩
  rintro m env s ⟨i, a, l, hi, rfl, ha, hI, hH, rfl, rfl⟩
  conv => whnf
  refine .scal [.d (.int .i64 rounds), .d (.int .i64 ((12 : Nat) : Int))] _ ⟨.refl _, rfl, hnum⟩ ?_
  conv => whnf
  rw [hmr, mul_i (by omega)]
  refine bcase_intro (fun h => ?_) (fun h => ?_) <;> conv => whnf
  · have hiR := lt_of h
    refine ⟨⟨rfl, by omega⟩, ?_⟩
    rw [hmr, mod_i]
    conv => whnf
    have hmod : i % mem.length < mem.length := Nat.mod_lt _ hmn
    obtain ⟨car, hcar, _⟩ := at_i hmod
    have hcm : car ∈ mem := List.mem_of_getElem? hcar
    refine ⟨rowI car, ⟨by omega, row_i hcar⟩, ?_⟩
    conv => whnf
    have hbb : ∀ l : List En, OnceI mem lit l → ∀ e ∈ l, e.bids.length ≤ 8 := fun l h e he => Nat.le_trans (h.bid e he).len (by omega)
    have hlb : ∀ l : List En, OnceI mem lit l → l.length ≤ 12 := fun l h => Nat.le_trans h.len hl12
    have hpu := purge 3 1 (i : Int) mem (by omega) l (Nat.le_trans (hlb l hI) (by decide)) (fun e he => Nat.le_trans (hbb l hI e he) (by decide)) lit (by omega)
    rw [once_stay hI] at hpu
    refine .data [awG 3 1 (i : Int) mem l, .d (.list 3 (rowsK lit))] _ ⟨.refl _, rfl, hpu⟩ ?_
    conv => whnf
    have had := add 3 1 (i : Int) mem (by omega) l (Nat.le_trans (hlb l hI) (by decide)) (fun e he => Nat.le_trans (hbb l hI e he) (by decide)) lit (by omega)
    obtain ⟨hI0, hH0, hS0⟩ := once_next (by omega) hI hH
    generalize addL l (sortK cK lit) = N0 at had hI0 hH0 hS0
    refine .data [awG 3 1 (i : Int) mem l, .d (.list 3 (rowsK lit))] _ ⟨.refl _, rfl, had⟩ ?_
    conv => whnf
    have hwa := wants 3 1 (i : Int) mem (by omega) N0 (Nat.le_trans (hlb N0 hI0) (by decide)) (fun e he => Nat.le_trans (hbb N0 hI0 e he) (by decide)) car
    obtain ⟨w, hw⟩ : ∃ w, wantL mem car N0 = w := ⟨_, rfl⟩
    have hwl : w.length ≤ 12 := by rw [← hw]; exact Nat.le_trans (want_len _ _ _) (hlb N0 hI0)
    rw [hw] at hwa
    have hwr := rowsC_len w
    refine .data [awG 3 1 (i : Int) mem N0, .d (.int .i64 car)] _ ⟨.refl _, rfl, hwa⟩ ?_
    conv => whnf
    refine StopG.rounds wk17 [] [1, 2, 3, 9, 12, 13, 14, 15, 16, 17, 18] (fun m env s => ∃ (k a : Nat) (N : List En), k ≤ w.length ∧ m = w.length - k ∧ a ≤ 60 ∧ OnceI mem lit N ∧ OnceH lit N ∧ Stays l N ∧ wantL mem car N = w.drop k ∧
      env = [(1, .d (.list 3 (rowsK lit))), (2, .d (.list 1 (rowsI ticks))), (3, .d (.int .i64 rounds)), (9, .d (.bool true)), (12, .ref (.g 0) 0), (13, .d (.int .i64 (a : Int))), (14, .d (.int .i64 (i : Int))), (15, .d (.int .i64 car)), (16, .ref (.g 1) 0), (17, .d (.list 2 (rowsC w))), (18, .d (.int .i64 (k : Int)))] ∧
      s = [(0, celR 3 1 (i : Int) mem l), (1, celR 3 1 (i : Int) mem N)]) rfl ?_ ?_
    · conv => whnf
      exact ⟨_, 0, a, N0, Nat.zero_le _, rfl, ha, hI0, hH0, hS0, hw, rfl, rfl⟩
    clear had hwa hw hI0 hH0 hS0 N0 ha a hpu
    rintro m env s ⟨k, a, N, hk, rfl, ha, hI0, hH0, hS0, hw, rfl, rfl⟩
    conv => whnf
    refine bcase_intro (fun h => ?_) (fun h => ?_) <;> conv => whnf
    · have hkw := lt_of h
      rw [hwr] at hkw
      obtain ⟨c, hc, hd⟩ := at_i hkw
      have hbt : ∀ t : Nat, t ≤ 1000 → Contract Try.prog G0 61 [awG 3 1 (i : Int) mem N, bidv (car, (t : Int)), calV c.1 c.2] [] (fun r s => r = .tup [awG 3 1 (i : Int) mem (bidL mem (car, (t : Int)) c N).1, .d (.bool true)] ∧ s = []) ∧
          Contract Try.prog G0 61 [awG 3 1 (i : Int) mem (bidL mem (car, (t : Int)) c N).1, bidv (car, (t : Int)), calV c.1 c.2] [] (fun r s => r = .tup [awG 3 1 (i : Int) mem (bidL mem (car, (t : Int)) c (bidL mem (car, (t : Int)) c N).1).1, .d (.bool false)] ∧ s = []) ∧
          OnceI mem lit (bidL mem (car, (t : Int)) c N).1 ∧ OnceH lit (bidL mem (car, (t : Int)) c N).1 ∧ Stays l (bidL mem (car, (t : Int)) c N).1 ∧ wantL mem car (bidL mem (car, (t : Int)) c N).1 = w.drop (k + 1) := by
        intro t ht
        obtain ⟨b1, b2, b3, b4, b5, b6, b7⟩ := once_bid ht hcm hI0 hH0 (hw.trans hd)
        have c1 := bid 3 1 (i : Int) mem (by omega) N (Nat.le_trans (hlb N hI0) (by decide)) (fun e he => Nat.le_trans (hbb N hI0 e he) (by decide)) (car, (t : Int)) c
        have c2 := bid 3 1 (i : Int) mem (by omega) (bidL mem (car, (t : Int)) c N).1 (Nat.le_trans (hlb _ b4) (by decide)) (fun e he => Nat.le_trans (hbb _ b4 e he) (by decide)) (car, (t : Int)) c
        rw [b1] at c1
        rw [b2] at c2
        exact ⟨c1, c2, b4, b5, hS0.trans b6, b3⟩
      refine bcase_intro (fun hat => ?_) (fun hat => ?_) <;> conv => whnf
      · have hat := lt_of hat
        rw [htl] at hat
        obtain ⟨tk, htk1, _⟩ := at_i hat
        refine ⟨rowI tk, ⟨by omega, row_i htk1⟩, ?_⟩
        conv => whnf
        have hn9 := num24 tk 9 (by decide) (by decide)
        have ht9 := numB_lt tk (m := 9) (by decide)
        generalize numB tk 9 = t at hn9 ht9
        obtain ⟨c1, c2, b4, b5, b6, b3⟩ := hbt t (by omega)
        refine .scal [.d (.int .i64 tk), .d (.int .i64 ((9 : Nat) : Int))] _ ⟨.refl _, rfl, hn9⟩ ?_
        conv => whnf
        refine ⟨rowC c, ⟨by omega, row_i hc⟩, ?_⟩
        conv => whnf
        refine .data [awG 3 1 (i : Int) mem N, bidv (car, (t : Int)), calV c.1 c.2] _ ⟨.refl _, rfl, c1⟩ ?_
        conv => whnf
        refine ⟨rowC c, ⟨by omega, row_i hc⟩, ?_⟩
        conv => whnf
        refine .data [awG 3 1 (i : Int) mem (bidL mem (car, (t : Int)) c N).1, bidv (car, (t : Int)), calV c.1 c.2] _ ⟨.refl _, rfl, c2⟩ ?_
        conv => whnf
        rw [succ_i hkw (by omega), succ_i hat (by omega)]
        exact ⟨_, by omega, k + 1, a + 1, (bidL mem (car, (t : Int)) c N).1, hkw, rfl, by omega, b4, b5, b6, b3, rfl, rfl⟩
      · obtain ⟨c1, c2, b4, b5, b6, b3⟩ := hbt 5 (by decide)
        refine ⟨rowC c, ⟨by omega, row_i hc⟩, ?_⟩
        conv => whnf
        refine .data [awG 3 1 (i : Int) mem N, bidv (car, ((5 : Nat) : Int)), calV c.1 c.2] _ ⟨.refl _, rfl, c1⟩ ?_
        conv => whnf
        refine ⟨rowC c, ⟨by omega, row_i hc⟩, ?_⟩
        conv => whnf
        refine .data [awG 3 1 (i : Int) mem (bidL mem (car, ((5 : Nat) : Int)) c N).1, bidv (car, ((5 : Nat) : Int)), calV c.1 c.2] _ ⟨.refl _, rfl, c2⟩ ?_
        conv => whnf
        rw [succ_i hkw (by omega)]
        exact ⟨_, by omega, k + 1, a, (bidL mem (car, ((5 : Nat) : Int)) c N).1, hkw, rfl, ha, b4, b5, b6, b3, rfl, rfl⟩
    have haw := award 3 1 (i : Int) mem (by omega) N (Nat.le_trans (hlb N hI0) (by decide)) (fun e he => Nat.le_trans (hbb N hI0 e he) (by decide))
    obtain ⟨hI1, hH1, hS1⟩ := once_award hI0 hH0
    have hS1 := hS0.trans hS1
    have hwon : ∀ e ∈ wonL mem N, _ := fun e he => won_ok hnd hp0 hI0.bid he
    have hwb : (wonL mem N).length ≤ 12 := by
      rw [wonL, List.length_map]
      exact Nat.le_trans (List.length_filter_le _ _) (hlb N hI0)
    have hyl : (N.map (awE mem)).length = N.length := by simp
    generalize wonL mem N = won at haw hwon hwb
    generalize N.map (awE mem) = y at haw hI1 hH1 hS1 hyl
    have hwnl := rowsE_len won
    have hlr := rowsE_len l
    have hyr := rowsE_len y
    have hNr := rowsE_len N
    have hl12' := hlb l hI
    refine .data [awG 3 1 (i : Int) mem N] _ ⟨.refl _, rfl, haw⟩ ?_
    conv => whnf
    refine StopG.rounds wk17 [] [1, 2, 3, 9, 12, 13, 14, 16, 24, 25, 26] (fun m env s => ∃ q : Nat, q ≤ won.length ∧ m = won.length - q ∧
      env = [(1, .d (.list 3 (rowsK lit))), (2, .d (.list 1 (rowsI ticks))), (3, .d (.int .i64 rounds)), (9, .d (.bool true)), (12, .ref (.g 0) 0), (13, .d (.int .i64 (a : Int))), (14, .d (.int .i64 (i : Int))), (16, .ref (.g 1) 0), (24, .ref (.g 2) 0), (25, .d (.list 5 (rowsE won))), (26, .d (.int .i64 (q : Int)))] ∧
      s = [(0, celR 3 1 (i : Int) mem l), (1, celR 3 1 (i : Int) mem N), (2, celR 3 1 (i : Int) mem y)]) rfl ?_ ?_
    · conv => whnf
      exact ⟨_, 0, Nat.zero_le _, rfl, rfl, rfl⟩
    rintro m env s ⟨q, hq, rfl, rfl, rfl⟩
    conv => whnf
    refine bcase_intro (fun h => ?_) (fun h => ?_) <;> conv => whnf
    · have hqw := lt_of h
      rw [hwnl] at hqw
      obtain ⟨e, he, _⟩ := at_i hqw
      obtain ⟨he0, hel, hless⟩ := hwon e (List.mem_of_getElem? he)
      have hbr := rowsB_len e.bids
      have heb : e.bids.length ≤ 8 := by omega
      refine ⟨rowE e, ⟨by omega, row_i he⟩, ?_⟩
      conv => whnf
      refine ⟨rowE e, (fun _ => ⟨by omega, row_i he⟩), ?_⟩
      conv => whnf
      have hcond : (bif decide (e.aw < 0) then true else (((rowsB e.bids).length : Int) != ((rowsI mem).length : Int))) = false := by
        rw [show decide (e.aw < 0) = false from decide_eq_false (by omega), hbr, hmr, hel]
        simp
      rw [hcond]
      conv => whnf
      refine StopG.rounds wk17 [] [1, 2, 3, 9, 12, 13, 14, 16, 24, 25, 26, 27] (fun m env s => ∃ j : Nat, j ≤ e.bids.length ∧ m = e.bids.length - j ∧
        env = [(1, .d (.list 3 (rowsK lit))), (2, .d (.list 1 (rowsI ticks))), (3, .d (.int .i64 rounds)), (9, .d (.bool true)), (12, .ref (.g 0) 0), (13, .d (.int .i64 (a : Int))), (14, .d (.int .i64 (i : Int))), (16, .ref (.g 1) 0), (24, .ref (.g 2) 0), (25, .d (.list 5 (rowsE won))), (26, .d (.int .i64 (q : Int))), (27, .d (.int .i64 (j : Int)))] ∧
        s = [(0, celR 3 1 (i : Int) mem l), (1, celR 3 1 (i : Int) mem N), (2, celR 3 1 (i : Int) mem y)]) rfl ?_ ?_
      · conv => whnf
        exact ⟨_, 0, Nat.zero_le _, rfl, rfl, rfl⟩
      rintro m env s ⟨j, hj, rfl, rfl, rfl⟩
      conv => whnf
      refine ⟨rowE e, ⟨by omega, row_i he⟩, ?_⟩
      conv => whnf
      refine bcase_intro (fun h => ?_) (fun h => ?_) <;> conv => whnf
      · have hjb := lt_of h
        rw [hbr] at hjb
        obtain ⟨o, ho, _⟩ := at_i hjb
        refine ⟨rowE e, ⟨by omega, row_i he⟩, ?_⟩
        conv => whnf
        refine ⟨rowB o, ⟨by omega, row_i ho⟩, ?_⟩
        conv => whnf
        refine ⟨rowE e, ⟨by omega, row_i he⟩, ?_⟩
        conv => whnf
        refine bcase_intro (fun hoa => ?_) (fun hoa => ?_) <;> conv => whnf
        · rw [succ_i hjb (by omega)]
          exact ⟨_, by omega, j + 1, hjb, rfl, rfl, rfl⟩
        refine StopG.rounds wk17 [] [1, 2, 3, 9, 12, 13, 14, 16, 24, 25, 26, 27, 28, 29] (fun m env s => ∃ f : Nat, f ≤ e.bids.length ∧ m = e.bids.length - f ∧
          env = [(1, .d (.list 3 (rowsK lit))), (2, .d (.list 1 (rowsI ticks))), (3, .d (.int .i64 rounds)), (9, .d (.bool true)), (12, .ref (.g 0) 0), (13, .d (.int .i64 (a : Int))), (14, .d (.int .i64 (i : Int))), (16, .ref (.g 1) 0), (24, .ref (.g 2) 0), (25, .d (.list 5 (rowsE won))), (26, .d (.int .i64 (q : Int))), (27, .d (.int .i64 (j : Int))), (28, .ref (.g 3) 0), (29, .d (.int .i64 (f : Int)))] ∧
          s = [(0, celR 3 1 (i : Int) mem l), (1, celR 3 1 (i : Int) mem N), (2, celR 3 1 (i : Int) mem y), (3, .cells [.d (.int .i64 o.1), .d (.int .i64 o.2)])]) rfl ?_ ?_
        · conv => whnf
          exact ⟨_, 0, Nat.zero_le _, rfl, rfl, rfl⟩
        rintro m env s ⟨f, hf, rfl, rfl, rfl⟩
        conv => whnf
        refine ⟨rowE e, ⟨by omega, row_i he⟩, ?_⟩
        conv => whnf
        refine bcase_intro (fun h => ?_) (fun h => ?_) <;> conv => whnf
        · have hfb := lt_of h
          rw [hbr] at hfb
          obtain ⟨v, hv, _⟩ := at_i hfb
          refine ⟨rowE e, ⟨by omega, row_i he⟩, ?_⟩
          conv => whnf
          refine ⟨rowB v, ⟨by omega, row_i hv⟩, ?_⟩
          conv => whnf
          refine ⟨rowE e, ⟨by omega, row_i he⟩, ?_⟩
          conv => whnf
          refine bcase_intro (fun hc => ?_) (fun hc => ?_)
          · exfalso
            have hc : (bif v.1 == e.aw then (bif decide (o.2 < v.2) then true else bif o.2 == v.2 then decide (o.1 < v.1) else false) else false) = true := hc
            cases hva : v.1 == e.aw with
            | false => rw [hva] at hc; cases hc
            | true =>
              rw [hva] at hc
              have h1 := hless o (List.mem_of_getElem? ho) v (List.mem_of_getElem? hv) (by simpa using hva)
              rw [lessB, ← bif_or, ← bif_and] at h1
              have hc : (bif decide (o.2 < v.2) then true else bif o.2 == v.2 then decide (o.1 < v.1) else false) = true := hc
              rw [h1] at hc
              cases hc
          conv => whnf
          rw [succ_i hfb (by omega)]
          exact ⟨_, by omega, f + 1, hfb, rfl, rfl, rfl⟩
        · rw [succ_i hjb (by omega)]
          exact ⟨_, by omega, j + 1, hjb, rfl, rfl, rfl⟩
      · rw [succ_i hqw (by omega)]
        exact ⟨_, by omega, q + 1, hqw, rfl, rfl, rfl⟩
    refine StopG.rounds wk17 [] [1, 2, 3, 9, 12, 13, 14, 16, 24, 31] (fun m env s => ∃ g : Nat, g ≤ l.length ∧ m = l.length - g ∧
      env = [(1, .d (.list 3 (rowsK lit))), (2, .d (.list 1 (rowsI ticks))), (3, .d (.int .i64 rounds)), (9, .d (.bool true)), (12, .ref (.g 0) 0), (13, .d (.int .i64 (a : Int))), (14, .d (.int .i64 (i : Int))), (16, .ref (.g 1) 0), (24, .ref (.g 2) 0), (31, .d (.int .i64 (g : Int)))] ∧
      s = [(0, celR 3 1 (i : Int) mem l), (1, celR 3 1 (i : Int) mem N), (2, celR 3 1 (i : Int) mem y)]) rfl ?_ ?_
    · conv => whnf
      exact ⟨_, 0, Nat.zero_le _, rfl, rfl, rfl⟩
    rintro m env s ⟨g, hgl, rfl, rfl, rfl⟩
    conv => whnf
    refine bcase_intro (fun h => ?_) (fun h => ?_) <;> conv => whnf
    · have hgl2 := lt_of h
      rw [hlr] at hgl2
      obtain ⟨e, he, _⟩ := at_i hgl2
      refine ⟨rowE e, ⟨by omega, row_i he⟩, ?_⟩
      conv => whnf
      refine bcase_intro (fun hea => ?_) (fun hea => ?_) <;> conv => whnf
      · rw [succ_i hgl2 (by omega)]
        exact ⟨_, by omega, g + 1, hgl2, rfl, rfl, rfl⟩
      have hea : e.aw ≥ 0 := by have := of_decide_eq_false hea; omega
      have hye := hS1 g e he hea
      have hgy := (List.getElem?_eq_some_iff.1 hye).1
      refine ⟨rowE e, (fun _ => ⟨by omega, row_i hye⟩), ?_⟩
      conv => whnf
      refine ⟨rowE e, (fun _ => ⟨by omega, row_i he⟩), ?_⟩
      conv => whnf
      refine ⟨rowE e, (fun _ => ⟨by omega, row_i hye⟩), ?_⟩
      conv => whnf
      refine ⟨rowE e, (fun _ => ⟨by omega, row_i he⟩), ?_⟩
      conv => whnf
      have hcond : (bif (bif decide ((g : Int) ≥ ((rowsE y).length : Int)) then true else e.aw != e.aw) then true else (((rowsB e.bids).length : Int) != ((rowsB e.bids).length : Int))) = false := by
        rw [show decide ((g : Int) ≥ ((rowsE y).length : Int)) = false from decide_eq_false (by omega)]
        simp
      rw [hcond]
      conv => whnf
      rw [succ_i hgl2 (by omega)]
      exact ⟨_, by omega, g + 1, hgl2, rfl, rfl, rfl⟩
    have hps := pass 3 1 (i : Int) mem (by omega) y (Nat.le_trans (hlb y hI1) (by decide)) (fun e he => Nat.le_trans (hbb y hI1 e he) (by decide))
    have hi1 : IntKind.wrap .i64 ((i : Int) + 1) = ((i + 1 : Nat) : Int) := succ_i (Nat.lt_succ_self i) (by omega)
    have hnb : decide ((i : Int) ≥ 1099511627776) = false := decide_eq_false (by omega)
    rw [show passH (i : Int) = ((i + 1 : Nat) : Int) by rw [passH, hnb, hi1]; rfl, show passR (i : Int) = true by rw [passR, hnb]; rfl] at hps
    refine .data [awG 3 1 (i : Int) mem y] _ ⟨.refl _, rfl, hps⟩ ?_
    conv => whnf
    rw [hi1, hyr, hNr, hyl, show (((i + 1 : Nat) : Int) != ((i + 1 : Nat) : Int)) = false by simp, show ((N.length : Int) != (N.length : Int)) = false by simp]
    conv => whnf
    rw [hi1]
    exact ⟨_, by omega, i + 1, a, y, hiR, rfl, ha, hI1, .inr hH1, rfl, rfl⟩
  · exact ⟨rfl, rfl⟩
end Go.Proofs.Ytkenimmellonjaa
/- Seat r2: what comes in. -/
namespace Go.Proofs.Ytkenimmellonjaa
open Go.Pv Go.RowKit
theorem dat_int {n : Nat} {r : List DV} (h : Dat T (n + 1) 3 r) : ∃ m : Int, IntKind.min .i64 ≤ m ∧ m ≤ IntKind.max .i64 ∧ r = [.int .i64 m] := by
  obtain ⟨m, h1, h2, rfl⟩ := h
  exact ⟨m, h1, h2, rfl⟩
theorem dat_ints {n : Nat} {r : List DV} (h : Dat T (n + 2) 22 r) : ∃ (x : DV) (l : List Int), r = [x] ∧ l.length ≤ maxLen ∧ (∀ m ∈ l, IntKind.min .i64 ≤ m ∧ m ≤ IntKind.max .i64) ∧ ∀ {r r' : List AV}, WkL r r' → WkL (.d x :: r) (.d (.list 1 (rowsI l)) :: r') := by
  rcases h with h | ⟨rows, h1, h2, h⟩
  · exact ⟨.nil, [], h, by simp, by simp, fun hw => .n 1 hw⟩
  · have : ∃ ms : List Int, rows = rowsI ms ∧ ∀ m ∈ ms, IntKind.min .i64 ≤ m ∧ m ≤ IntKind.max .i64 := by
      clear h1 h
      induction rows with
      | nil => exact ⟨[], rfl, by simp⟩
      | cons r rs ih =>
        obtain ⟨ms, h3, h4⟩ := ih fun x hx => h2 x (List.mem_cons_of_mem _ hx)
        obtain ⟨m, h6, h7, h8⟩ := dat_int (h2 r (List.mem_cons_self ..))
        refine ⟨m :: ms, by rw [h3, h8]; rfl, ?_⟩
        intro x hx
        rcases List.mem_cons.1 hx with rfl | hx
        · exact ⟨h6, h7⟩
        · exact h4 x hx
    obtain ⟨ms, rfl, h3⟩ := this
    exact ⟨.list 1 (rowsI ms), ms, h, by simpa [rowsI] using h1, h3, fun hw => .s _ hw⟩
theorem arg_case {n : Nat} {x : AV} (h : ArgD T (n + 4) 45 x) : ∃ (car cars : Int) (out any : Bool) (alive ring : List Int) (since fnd : Int), ∀ {r r' : List AV}, WkL r r' → WkL (x :: r) (.agg [.d (.int .i64 car), .d (.int .i64 cars), .d (.bool out), .d (.bool any), .d (.list 1 (rowsI alive)), .d (.list 1 (rowsI ring)), .d (.int .i64 since), .d (.int .i64 fnd)] :: r') := by
  obtain ⟨xs, h, rfl⟩ := h
  obtain ⟨_, _, rfl, ⟨car, _, _, rfl⟩, _, _, rfl, ⟨cars, _, _, rfl⟩, _, _, rfl, ⟨out, rfl⟩, _, _, rfl, ⟨any, rfl⟩, _, _, rfl, hal, _, _, rfl, hri, _, _, rfl, ⟨since, _, _, rfl⟩, _, _, rfl, ⟨fnd, _, _, rfl⟩, rfl⟩ := h
  obtain ⟨x1, l1, rfl, _, _, hw1⟩ := dat_ints hal
  obtain ⟨x2, l2, rfl, _, _, hw2⟩ := dat_ints hri
  exact ⟨car, cars, out, any, l1, l2, since, fnd, fun hw => .a (.s _ (.s _ (.s _ (.s _ (hw1 (hw2 (.s _ (.s _ .nil)))))))) hw⟩
end Go.Proofs.Ytkenimmellonjaa
/- Seat r2: rings that come in. -/
namespace Go.Proofs.Ytkenimmellonjaa
open Go.Pv Go.RowKit
theorem dat_bid {n : Nat} {r : List DV} (h : Dat T (n + 2) 89 r) : ∃ b : B, r = rowB b := by
  obtain ⟨_, _, rfl, ⟨c, _, _, rfl⟩, _, _, rfl, ⟨p, _, _, rfl⟩, rfl⟩ := h
  exact ⟨(c, p), rfl⟩
theorem dat_bids {n : Nat} {r : List DV} (h : Dat T (n + 3) 70 r) : ∃ (x : DV) (l : List B), r = [x] ∧ l.length ≤ maxLen ∧ WkD x (.list 2 (rowsB l)) := by
  rcases h with h | ⟨rows, h1, h2, h⟩
  · exact ⟨.nil, [], h, by simp, WkD.nil 2⟩
  · have : ∃ l : List B, rows = rowsB l := by
      clear h1 h
      induction rows with
      | nil => exact ⟨[], rfl⟩
      | cons r rs ih =>
        obtain ⟨l, h3⟩ := ih fun x hx => h2 x (List.mem_cons_of_mem _ hx)
        obtain ⟨b, h4⟩ := dat_bid (h2 r (List.mem_cons_self ..))
        exact ⟨b :: l, by rw [h3, h4]; rfl⟩
    obtain ⟨l, rfl⟩ := this
    exact ⟨_, l, h, by simpa [rowsB] using h1, WkD.refl _⟩
theorem dat_entry {n : Nat} {r : List DV} (h : Dat T (n + 4) 72 r) : ∃ (e : En) (x : DV), r = [.int .i64 e.fl, .int .i64 e.dr, .int .i64 e.gn, x, .int .i64 e.aw] ∧ WkD x (.list 2 (rowsB e.bids)) := by
  obtain ⟨_, _, rfl, ⟨_, _, rfl, ⟨_, _, rfl, ⟨fl, _, _, rfl⟩, _, _, rfl, ⟨dr, _, _, rfl⟩, rfl⟩, _, _, rfl, ⟨gn, _, _, rfl⟩, rfl⟩, _, _, rfl, hb, _, _, rfl, ⟨aw, _, _, rfl⟩, rfl⟩ := h
  obtain ⟨x, l, rfl, _, hw⟩ := dat_bids hb
  exact ⟨⟨fl, dr, gn, l, aw⟩, x, rfl, hw⟩
theorem dat_ents {n : Nat} {r : List DV} (h : Dat T (n + 5) 63 r) : ∃ (x : DV) (l : List En), r = [x] ∧ l.length ≤ maxLen ∧ WkD x (.list 5 (rowsE l)) := by
  rcases h with h | ⟨rows, h1, h2, h⟩
  · exact ⟨.nil, [], h, by simp, WkD.nil 5⟩
  · have : ∃ l : List En, rows.length = l.length ∧ ∀ (i : Nat) (r r' : List DV), rows[i]? = some r → (rowsE l)[i]? = some r' → r'.length = r.length ∧ ∀ (j : Nat) (x y : DV), r[j]? = some x → r'[j]? = some y → WkD x y := by
      clear h1 h
      induction rows with
      | nil => exact ⟨[], rfl, by simp⟩
      | cons r rs ih =>
        obtain ⟨l, h3, h4⟩ := ih fun x hx => h2 x (List.mem_cons_of_mem _ hx)
        obtain ⟨e, z, h5, hw⟩ := dat_entry (h2 r (List.mem_cons_self ..))
        refine ⟨e :: l, by simp [h3], fun i a a' ha ha' => ?_⟩
        cases i with
        | succ i => exact h4 i a a' ha ha'
        | zero =>
          cases ha
          cases ha'
          subst h5
          refine ⟨rfl, fun j x y hx hy => ?_⟩
          match j, hx, hy with
          | 0, hx, hy => cases hx; cases hy; exact WkD.refl _
          | 1, hx, hy => cases hx; cases hy; exact WkD.refl _
          | 2, hx, hy => cases hx; cases hy; exact WkD.refl _
          | 3, hx, hy => cases hx; cases hy; exact hw
          | 4, hx, hy => cases hx; cases hy; exact WkD.refl _
          | j + 5, hx, hy => cases hx
    obtain ⟨l, h3, h4⟩ := this
    exact ⟨_, l, h, by rw [← h3]; exact h1, WkD.list (by rw [rowsE_len, h3]) h4⟩
theorem arg_ring {n : Nat} {x : AV} (h : ArgD T (n + 6) 65 x) : ∃ (cnt fdr hop : Int) (mem : List Int) (l : List En), mem.length ≤ maxLen ∧ l.length ≤ maxLen ∧ ∀ {r r' : List AV}, WkL r r' → WkL (x :: r) (rgV cnt fdr hop mem (.d (.list 5 (rowsE l))) :: r') := by
  obtain ⟨xs, h, rfl⟩ := h
  obtain ⟨_, _, rfl, ⟨_, _, rfl, ⟨cnt, _, _, rfl⟩, _, _, rfl, ⟨fdr, _, _, rfl⟩, rfl⟩, _, _, rfl, ⟨hop, _, _, rfl⟩, _, _, rfl, hm, _, _, rfl, he, rfl⟩ := h
  obtain ⟨x1, mem, rfl, hml, _, hw1⟩ := dat_ints hm
  obtain ⟨x2, l, rfl, hll, hw2⟩ := dat_ents he
  exact ⟨cnt, fdr, hop, mem, l, hml, hll, fun hw => .a (.s _ (.s _ (.s _ (hw1 (.w hw2 .nil))))) hw⟩
end Go.Proofs.Ytkenimmellonjaa
/- Seat r2: latches that come in. -/
namespace Go.Proofs.Ytkenimmellonjaa
open Go.Pv Go.RowKit
theorem dat_lat {n : Nat} {r : List DV} (h : Dat T (n + 3) 38 r) : ∃ k : Int × Int × Int, r = rowK k := by
  obtain ⟨_, _, rfl, ⟨_, _, rfl, ⟨fl, _, _, rfl⟩, _, _, rfl, ⟨dr, _, _, rfl⟩, rfl⟩, _, _, rfl, ⟨gn, _, _, rfl⟩, rfl⟩ := h
  exact ⟨(fl, dr, gn), rfl⟩
theorem dat_lats {n : Nat} {r : List DV} (h : Dat T (n + 4) 30 r) : ∃ (x : DV) (l : List (Int × Int × Int)), r = [x] ∧ l.length ≤ maxLen ∧ WkD x (.list 3 (rowsK l)) := by
  rcases h with h | ⟨rows, h1, h2, h⟩
  · exact ⟨.nil, [], h, by simp, WkD.nil 3⟩
  · have : ∃ l : List (Int × Int × Int), rows = rowsK l := by
      clear h1 h
      induction rows with
      | nil => exact ⟨[], rfl⟩
      | cons r rs ih =>
        obtain ⟨l, h3⟩ := ih fun x hx => h2 x (List.mem_cons_of_mem _ hx)
        obtain ⟨b, h4⟩ := dat_lat (h2 r (List.mem_cons_self ..))
        exact ⟨b :: l, by rw [h3, h4]; rfl⟩
    obtain ⟨l, rfl⟩ := this
    exact ⟨_, l, h, by simpa [rowsK] using h1, WkD.refl _⟩
theorem arg_lats {n : Nat} {x : AV} (h : ArgD T (n + 5) 30 x) : ∃ l : List (Int × Int × Int), l.length ≤ maxLen ∧ ∀ {r r' : List AV}, WkL r r' → WkL (x :: r) (.d (.list 3 (rowsK l)) :: r') := by
  obtain ⟨y, h, rfl⟩ := h
  obtain ⟨z, l, hz, hl, hw⟩ := dat_lats h
  cases hz
  exact ⟨l, hl, fun h => .w hw h⟩
end Go.Proofs.Ytkenimmellonjaa
