/- The seat's texts, part 4: what single functions of the program compute; no statement of its own. -/
import Derived.Test.YtkenimmellonjaaGC
import Derived.Test.YtkenimmellonjaaGA
import Derived.Test.YtkenimmellonjaaFrD
import Derived.Test.YtkenimmellonjaaTab
/- Seat r2: what is lit no more is gone: the plain law. -/
namespace Go.Proofs.Ytkenimmellonjaa
open Go.Pv Go.RowKit Go.Shelf
/-- Latches but one. -/
def litP (cut : Nat) : Nat → List En → List Kt
  | _, [] => []
  | i, e :: r => if i = cut then litP cut (i + 1) r else keyE e :: litP cut (i + 1) r
/-- Latches, one anew. -/
def anewP (cut : Nat) : Nat → List En → List Kt
  | _, [] => []
  | i, e :: r => (if i = cut then (e.fl, e.dr, e.gn + 1) else keyE e) :: anewP cut (i + 1) r
theorem litP_app (cut : Nat) : ∀ (i : Nat) (a b : List En), litP cut i (a ++ b) = litP cut i a ++ litP cut (i + a.length) b
  | i, [], b => rfl
  | i, e :: r, b => by
    show (if i = cut then litP cut (i + 1) (r ++ b) else keyE e :: litP cut (i + 1) (r ++ b)) = (if i = cut then litP cut (i + 1) r else keyE e :: litP cut (i + 1) r) ++ _
    rw [litP_app cut (i + 1) r b, List.length_cons, show i + 1 + r.length = i + (r.length + 1) by omega]
    split <;> rfl
theorem anewP_app (cut : Nat) : ∀ (i : Nat) (a b : List En), anewP cut i (a ++ b) = anewP cut i a ++ anewP cut (i + a.length) b
  | i, [], b => rfl
  | i, e :: r, b => by
    show _ :: anewP cut (i + 1) (r ++ b) = (_ :: anewP cut (i + 1) r) ++ _
    rw [anewP_app cut (i + 1) r b, List.length_cons, show i + 1 + r.length = i + (r.length + 1) by omega]
    rfl
theorem anewP_len (cut : Nat) : ∀ (i : Nat) (l : List En), (anewP cut i l).length = l.length
  | _, [] => rfl
  | i, e :: r => by
    show (anewP cut (i + 1) r).length + 1 = r.length + 1
    rw [anewP_len cut (i + 1) r]
theorem litP_len (cut : Nat) : ∀ (i : Nat) (l : List En), (litP cut i l).length ≤ l.length
  | _, [] => Nat.le_refl _
  | i, e :: r => by
    have := litP_len cut (i + 1) r
    show (if i = cut then litP cut (i + 1) r else keyE e :: litP cut (i + 1) r).length ≤ r.length + 1
    split
    · omega
    · rw [List.length_cons]; omega
theorem litP_off (cut : Nat) : ∀ (i : Nat) (l : List En), (∀ k, k < l.length → i + k ≠ cut) → litP cut i l = l.map keyE ∧ anewP cut i l = l.map keyE
  | _, [], _ => ⟨rfl, rfl⟩
  | i, e :: r, h => by
    have h0 : i ≠ cut := h 0 (Nat.succ_pos _)
    obtain ⟨h1, h2⟩ := litP_off cut (i + 1) r fun k hk => by
      have := h (k + 1) (Nat.succ_lt_succ hk)
      omega
    constructor
    · show (if i = cut then litP cut (i + 1) r else keyE e :: litP cut (i + 1) r) = _
      rw [if_neg h0, h1]; rfl
    · show (if i = cut then _ else keyE e) :: anewP cut (i + 1) r = _
      rw [if_neg h0, h2]; rfl
theorem litP_mid {A B : List En} {x : En} : litP A.length 0 (A ++ x :: B) = A.map keyE ++ B.map keyE ∧ anewP A.length 0 (A ++ x :: B) = A.map keyE ++ (x.fl, x.dr, x.gn + 1) :: B.map keyE := by
  have hA := litP_off A.length 0 A fun k hk => by omega
  have hB := litP_off A.length (A.length + 1) B fun k hk => by omega
  rw [litP_app, anewP_app, hA.1, hA.2, Nat.zero_add]
  constructor
  · show _ ++ (if A.length = A.length then litP A.length (A.length + 1) B else _) = _
    rw [if_pos rfl, hB.1]
  · show _ ++ (if A.length = A.length then _ else _) :: anewP A.length (A.length + 1) B = _
    rw [if_pos rfl, hB.2]
theorem insE_mid {A B : List En} {k : Kt} (hA : ∀ e ∈ A, lessK k e = false) (hB : ∀ e ∈ B, lessK k e = true) : insE k (A ++ B) = A ++ newE k :: B := by
  cases B with
  | nil =>
    rw [List.append_nil]
    have h1 : idxFrom (lessK k) A 0 = -1 := by
      rcases idx_cases0 (lessK k) A with ⟨h, _⟩ | ⟨j, x, _, hx, hf⟩
      · exact h
      · have := List.find?_some hf
        rw [hA x (List.mem_of_getElem? hx)] at this
        cases this
    unfold insE
    rw [h1]
    rfl
  | cons y B' =>
    have h1 : idxFrom (lessK k) (A ++ y :: B') 0 = (A.length : Int) := idx_first (hB y (List.mem_cons_self ..)) hA
    unfold insE
    rw [h1]
    show (A ++ y :: B').take A.length ++ newE k :: (A ++ y :: B').drop A.length = _
    rw [List.take_left' rfl, List.drop_left' rfl]
theorem addL_one {q0 : List En} {k0 : Kt} (hno : ∀ e ∈ q0, callE e ≠ callK k0) (hl : q0.length < 128) : ∀ {o : List Kt}, k0 ∈ o → (∀ k ∈ o, (∃ e ∈ q0, callE e = callK k) ∨ k = k0) → addL q0 o = insE k0 q0
  | [], h, _ => by cases h
  | k :: r, hk, h => by
    show addL (addE q0 k) r = _
    rcases h k (List.mem_cons_self ..) with ⟨e, he, hc⟩ | rfl
    · rw [addE_same ⟨e, he, hc⟩]
      refine addL_one hno hl ?_ fun x hx => h x (List.mem_cons_of_mem _ hx)
      rcases List.mem_cons.1 hk with h1 | h1
      · exact absurd hc (by rw [← h1]; exact hno e he)
      · exact h1
    · have hs := skip_go hl hno
      rw [show addE q0 k = insE k q0 by unfold addE; rw [hs]; rfl]
      refine addL_same fun x hx => ?_
      rcases h x (List.mem_cons_of_mem _ hx) with ⟨e, he, hc⟩ | rfl
      · exact ⟨e, insE_mem.2 (.inr he), hc⟩
      · exact ⟨newE x, insE_mem.2 (.inl rfl), rfl⟩
structure PurgeOK (A B : List En) (x : En) : Prop where
  p : stayL (litP A.length 0 (A ++ x :: B)) (A ++ x :: B) = A ++ B
  q0 : stayL (anewP A.length 0 (A ++ x :: B)) (A ++ x :: B) = A ++ B
  q : addL (A ++ B) (sortK cK (anewP A.length 0 (A ++ x :: B))) = A ++ newE (x.fl, x.dr, x.gn + 1) :: B
theorem purge_ok {A B : List En} {x : En} (hs : SrtE (A ++ x :: B)) (hl : (A ++ x :: B).length ≤ 30) : PurgeOK A B x := by
  unfold SrtE at hs
  obtain ⟨sA, sB, sAB⟩ := List.pairwise_append.1 hs
  obtain ⟨sx, sB⟩ := List.pairwise_cons.1 sB
  have hAx : ∀ e ∈ A, lessE e x = true := fun e he => sAB e he x (List.mem_cons_self ..)
  have key : ∀ {a b : En}, lessE a b = true → callE a ≠ callE b := fun {a b} h e => by
    rw [lessE_iff] at h
    have e1 : a.fl = b.fl := congrArg Prod.fst e
    have e2 : a.dr = b.dr := congrArg Prod.snd e
    omega
  have hk : ∀ {a b : En}, callE a ≠ callE b → keyE a ≠ keyE b := fun {a b} h e => h (by
    have e1 : a.fl = b.fl := congrArg Prod.fst e
    have e2 : a.dr = b.dr := congrArg (fun q => q.2.1) e
    unfold callE; rw [e1, e2])
  have hxA : ∀ e ∈ A, callE e ≠ callE x := fun e he => key (hAx e he)
  have hxB : ∀ e ∈ B, callE e ≠ callE x := fun e he h => key (sx e he) h.symm
  obtain ⟨hm1, hm2⟩ := litP_mid (A := A) (B := B) (x := x)
  have inA : ∀ e ∈ A, keyE e ∈ A.map keyE := fun e he => List.mem_map.2 ⟨e, he, rfl⟩
  have inB : ∀ e ∈ B, keyE e ∈ B.map keyE := fun e he => List.mem_map.2 ⟨e, he, rfl⟩
  have nx1 : keyE x ∉ A.map keyE := fun h => by
    obtain ⟨e, he, h⟩ := List.mem_map.1 h
    exact hk (hxA e he) h
  have nx2 : keyE x ∉ B.map keyE := fun h => by
    obtain ⟨e, he, h⟩ := List.mem_map.1 h
    exact hk (hxB e he) h
  refine ⟨?_, ?_, ?_⟩
  · rw [hm1]
    unfold stayL
    rw [List.filter_append, List.filter_cons_of_neg, List.filter_eq_self.2, List.filter_eq_self.2]
    · exact fun e he => (litE_iff _ e).2 (List.mem_append_right _ (inB e he))
    · exact fun e he => (litE_iff _ e).2 (List.mem_append_left _ (inA e he))
    · rw [litE_iff]
      exact fun h => (List.mem_append.1 h).elim nx1 nx2
  · rw [hm2]
    unfold stayL
    rw [List.filter_append, List.filter_cons_of_neg, List.filter_eq_self.2, List.filter_eq_self.2]
    · exact fun e he => (litE_iff _ e).2 (List.mem_append_right _ (List.mem_cons_of_mem _ (inB e he)))
    · exact fun e he => (litE_iff _ e).2 (List.mem_append_left _ (inA e he))
    · rw [litE_iff]
      intro h
      rcases List.mem_append.1 h with h | h
      · exact nx1 h
      · rcases List.mem_cons.1 h with h | h
        · have : x.gn = x.gn + 1 := congrArg (fun q => q.2.2) h
          omega
        · exact nx2 h
  · rw [hm2]
    have hst := sortK_stb cK_ord (A.map keyE ++ (x.fl, x.dr, x.gn + 1) :: B.map keyE)
    have hmem : ∀ k, k ∈ sortK cK (A.map keyE ++ (x.fl, x.dr, x.gn + 1) :: B.map keyE) ↔ k ∈ (A.map keyE ++ (x.fl, x.dr, x.gn + 1) :: B.map keyE) := fun k => hst.mem cK_ord k
    generalize sortK cK (A.map keyE ++ (x.fl, x.dr, x.gn + 1) :: B.map keyE) = o at hmem
    simp only [List.length_append, List.length_cons] at hl
    rw [addL_one (k0 := (x.fl, x.dr, x.gn + 1)) ?_ ?_ ?_ ?_]
    · refine insE_mid (fun e he => ?_) fun e he => ?_
      · have := hAx e he
        rw [lessE_iff] at this
        cases h : lessK (x.fl, x.dr, x.gn + 1) e with
        | false => rfl
        | true =>
          have h2 : x.fl < e.fl ∨ (x.fl = e.fl ∧ x.dr < e.dr) := (lessK_iff _ e).1 h
          omega
      · have := sx e he
        rw [lessE_iff] at this
        exact (lessK_iff _ e).2 this
    · intro e he
      rcases List.mem_append.1 he with he | he
      · exact hxA e he
      · exact hxB e he
    · rw [List.length_append]; omega
    · exact (hmem _).2 (List.mem_append_right _ (List.mem_cons_self ..))
    · intro k hk
      rcases List.mem_append.1 ((hmem k).1 hk) with h | h
      · obtain ⟨e, he, rfl⟩ := List.mem_map.1 h
        exact .inl ⟨e, List.mem_append_left _ he, rfl⟩
      · rcases List.mem_cons.1 h with h | h
        · exact .inr h
        · obtain ⟨e, he, rfl⟩ := List.mem_map.1 h
          exact .inl ⟨e, List.mem_append_right _ he, rfl⟩
end Go.Proofs.Ytkenimmellonjaa
/- Seat r2: an entry put among entries of one's own. -/
namespace Go.Proofs.Ytkenimmellonjaa
open Go.Pv Go.RowKit Go.Shelf
theorem ov122 (x y : Value) (w : World) : (callFunc 122 #[x, y]).run Try.prog w = ((Extern.SlicesOverlaps.overlaps #[63, 63] #[4] #[x, y]).run Try.prog w).andThen fun v w' => .ok (.value v) w' := by
  rw [run_callFunc_extern Try.func122 (by kernel_rfl) (by kernel_rfl) (by kernel_rfl) (e := Extern.SlicesOverlaps.overlaps #[63, 63] #[4]) (by kernel_rfl)]
set_option maxRecDepth 100000 in
theorem insertE_own (rows : List (List DV)) (hl : rows.length ≤ 100000) (k : Nat) (hk : k ≤ rows.length) (c : Nat) (hc : rows.length ≤ c) (x : List DV) :
    Contract Try.prog G0 98 [.slc (.g 0) 5 0 rows.length c, .d (.int .i64 k), .d (.list 5 [x])] [(0, .row 5 rows)] (fun r t => (∃ c', rows.length + 1 ≤ c' ∧ r = .slc (.g 0) 5 0 (rows.length + 1) c' ∧ t = [(0, .row 5 (rows.take k ++ x :: rows.drop k))]) ∨ ∃ c' old, rows.length + 1 ≤ c' ∧ (old = .dead ∨ old = .row 5 rows) ∧ r = .slc (.g 1) 5 0 (rows.length + 1) c' ∧ t = [(0, old), (1, .row 5 (rows.take k ++ x :: rows.drop k))]) := by
  refine run98 1 [] rfl rfl ?_
  conv => whnf
  refine ⟨⟨by omega, by omega, by omega⟩, ?_⟩
  conv => whnf
  have hw1 : IntKind.i64.wrap ((rows.length : Int) + (([x] : List (List DV)).length : Int)) = ((rows.length + 1 : Nat) : Int) := by
    rw [wrap_id (by simp; omega) (by simp; omega)]
    simp
  have hw2 : IntKind.i64.wrap ((k : Int) + (([x] : List (List DV)).length : Int)) = ((k + 1 : Nat) : Int) := by
    rw [wrap_id (by simp; omega) (by simp; omega)]
    simp
  refine bcase_intro (fun h => ?_) (fun h => ?_) <;> conv => whnf
  · have h : k = rows.length := by simp at h; omega
    subst h
    refine ⟨Nat.le_refl _, ⟨?_, ?_⟩, ?_⟩
    · show (2 * (rows.length + 1) + 1024) * 56 ≤ 281474976710656; omega
    · show rows.length + 1 ≤ _; omega
    conv => whnf
    intro c' hc'
    conv => whnf
    refine .inr ⟨c', .dead, hc', .inl rfl, rfl, ?_⟩
    rw [List.take_length, List.drop_length]
  · have h : k < rows.length := by simp at h; omega
    rw [hw1]
    refine bcase_intro (fun h2 => ?_) (fun h2 => ?_) <;> conv => whnf
    · have h2 : c < rows.length + 1 := by simp at h2; omega
      refine ⟨⟨by omega, by omega, by omega⟩, ?_⟩
      conv => whnf
      rw [hw1]
      simp -iota only [Int.toNat_natCast, Int.toNat_zero, Nat.sub_zero, Nat.zero_add]
      have hkn : k + (rows.length + 1 - k) = rows.length + 1 := by omega
      refine ⟨rows.length + 1 - k, ⟨?_, by omega, by omega, by omega, ?_, by omega⟩, ?_⟩
      · rw [wrap_id (by omega) (by omega)]; omega
      · show (2 * _ + 1024) * 56 ≤ 281474976710656; omega
      rw [hkn]
      conv => whnf
      intro c1 hc1
      conv => whnf
      refine ⟨⟨by omega, by omega, by omega⟩, ?_⟩
      conv => whnf
      simp -iota only [Int.toNat_natCast, Nat.zero_add]
      refine ⟨by simp; omega, ?_⟩
      conv => whnf
      refine ⟨⟨by omega, by rw [hw2]; omega, by omega⟩, ?_⟩
      conv => whnf
      refine ⟨⟨by omega, by omega, by omega⟩, ?_⟩
      conv => whnf
      rw [hw2]
      simp -iota only [Int.toNat_natCast, Nat.zero_add]
      refine ⟨by simp [splice]; omega, ?_⟩
      conv => whnf
      refine ⟨by omega, ?_⟩
      conv => whnf
      refine .inr ⟨c1, .row 5 rows, by omega, .inr rfl, rfl, ?_⟩
      refine congrArg (fun q => [(0, AB.row 5 rows), (1, AB.row 5 q)]) ?_
      have := ins_a rows k h x (min (rows.length - k) (rows.length + 1 - (k + 1))) (by omega) (List.replicate (rows.length + 1 - k) ti72.zero) (by simp)
      refine Eq.trans ?_ this
      have e1 : ([x] : List (List DV)).take (rows.length + 1 - k) = [x] := List.take_of_length_le (by simp; try omega)
      have e2 : ((rows.drop k).take (min (rows.length - k) (rows.length + 1 - (k + 1)))).length = min (rows.length - k) (rows.length + 1 - (k + 1)) := by simp; try omega
      refine (List.take_of_length_le (i := rows.length + 1) ?_).symm.trans ?_
      · simp [splice, e1]; omega
      · simp only [splice, e1, List.length_singleton, e2, List.drop_zero]
    · have h2 : rows.length + 1 ≤ c := by simp at h2; omega
      refine ⟨⟨by omega, by rw [hw1]; omega, by rw [hw1]; omega⟩, ?_⟩
      conv => whnf
      refine ⟨⟨by rw [hw2]; omega, by rw [hw1, hw2]; omega, by rw [hw1]; omega⟩, ?_⟩
      conv => whnf
      rw [hw1, hw2]
      simp -iota only [Int.toNat_natCast, Int.toNat_zero, Nat.sub_zero, Nat.zero_add]
      refine .raw rfl ?_
      have q1 : T 63 = some ti63 := by kernel_rfl
      have q2 : T 72 = some ti72 := by kernel_rfl
      refine ej_overlaps (f := 122) (c := .func 122) (tys := #[63, 63]) (t := 63) (tr := 4) (e := 72) (ti := ti63) (te := ti72) (x := .tmp 61) (y := .tmp 66) (sz := 5) (rows := [x]) (id := 0) (off := k + 1) (len := rows.length + 1 - (k + 1)) (cap := c - (k + 1)) (old := rows) tabOK q1 ?_ q2 ov122 ?_ ?_ ?_ ?_ ?_ ?_ ?_
      · rfl
      · rfl
      · rfl
      · rfl
      · decide
      · rfl
      · rfl
      conv => whnf
      refine ⟨⟨by rw [hw2]; omega, by rw [hw2]; omega, by omega⟩, ?_⟩
      conv => whnf
      refine ⟨⟨by omega, by omega, by omega⟩, ?_⟩
      conv => whnf
      rw [hw2]
      simp -iota only [Int.toNat_natCast, Nat.zero_add]
      refine ⟨by omega, ?_⟩
      conv => whnf
      refine ⟨by omega, ?_⟩
      conv => whnf
      refine ⟨⟨by omega, by omega, by omega⟩, ?_⟩
      conv => whnf
      simp -iota only [Int.toNat_natCast, Nat.zero_add]
      refine ⟨by simp [splice]; omega, ?_⟩
      conv => whnf
      have e2 : ((rows.drop k).take (min (rows.length + 1 - k) (rows.length + 1 - (k + 1)))).length = rows.length - k := by simp; omega
      have e1 : ([x] : List (List DV)).take (rows.length + 1 - k) = [x] := List.take_of_length_le (by simp; try omega)
      refine .inl ⟨c, h2, rfl, ?_⟩
      refine congrArg (fun q => [(0, AB.row 5 q)]) ?_
      refine (List.take_of_length_le (i := rows.length + 1) ?_).symm.trans ?_
      · simp [splice, e1]; omega
      · rw [← ins_b rows k h x (min (rows.length + 1 - k) (rows.length + 1 - (k + 1))) (by omega)]
        simp only [splice, e1, List.length_singleton, e2]
set_option maxRecDepth 100000 in
theorem insertE_none (e : DV) (he : e = .nil ∨ e = .emp) (x : List DV) :
    Contract Try.prog G0 98 [.d e, .d (.int .i64 0), .d (.list 5 [x])] [] (fun r t => ∃ c', 1 ≤ c' ∧ r = .slc (.g 0) 5 0 1 c' ∧ t = [(0, .row 5 [x])]) := by
  refine run98 0 [] rfl rfl ?_
  rcases he with rfl | rfl
  all_goals
    conv => whnf
    refine ⟨⟨by omega, by omega⟩, ?_⟩
    conv => whnf
    refine ⟨⟨?_, ?_⟩, ?_⟩
    · show (2 * 1 + 1024) * 56 ≤ 281474976710656; omega
    · show 1 ≤ _; omega
    conv => whnf
    intro c hc
    conv => whnf
    exact ⟨c, hc, rfl, rfl⟩
end Go.Proofs.Ytkenimmellonjaa
/- Seat r2: what is lit is added. -/
namespace Go.Proofs.Ytkenimmellonjaa
open Go.Pv Go.RowKit Go.Shelf
set_option maxRecDepth 100000 in
theorem sortS (l : List Kt) (N : Nat) (hN : l.length = N) (hl : N ≤ 10000) (cap : Nat) : Contract Try.prog G0 92 [.slc (.g 0) 3 0 N cap, .fn 93 []] [(0, .row 3 (rowsK l))] (fun r t => r = .tup [] ∧ t = [(0, .row 3 (rowsK (sortK cK l)))]) :=
  (sort92 l N hN hl cap).mono fun r t ⟨o, h1, h2, h3, h4⟩ => by
    have := Srt.uniq cK_ord (sortK_srt cK_ord l) h2 fun k => (h3 k).trans (sortK_stb cK_ord l k).symm
    exact ⟨h1, by rw [h4, this]⟩
set_option maxRecDepth 100000 in
theorem sortS_none (e : DV) (he : e = .nil ∨ e = .emp) : Contract Try.prog G0 92 [.d e, .fn 93 []] [] (fun r t => r = .tup [] ∧ t = []) := by
  have h142 : ∀ e : DV, e = .nil ∨ e = .emp → Contract Try.prog G0 142 [.d e, .d (.int .i64 0), .d (.int .i64 0), .fn 93 []] [] (fun r t => r = .tup [] ∧ t = []) := by
    intro e he
    rcases he with rfl | rfl
    all_goals
      refine run142 0 [] rfl rfl ?_
      conv => whnf
      refine StopG.rounds wk142 [] [2, 8] (fun m env s => m = 0 ∧ env = [(2, .d (.int .i64 0)), (8, .d (.int .i64 1))] ∧ s = []) rfl ?_ ?_
      · conv => whnf
        exact ⟨_, rfl, rfl, rfl⟩
      rintro m env s ⟨rfl, rfl, rfl⟩
      conv => whnf
      exact ⟨rfl, rfl⟩
  have h120 : Contract Try.prog G0 120 [.d e, .d (.int .i64 0), .fn 93 []] [] (fun r t => r = .tup [] ∧ t = []) := by
    rcases he with rfl | rfl
    all_goals
      refine run120 0 [] rfl rfl ?_
      conv => whnf
      refine StopG.rounds wk120 [] [0, 1, 2, 6, 7, 8] (fun m env s => m = 0 ∧ ∃ e, (e = .nil ∨ e = .emp) ∧ env = [(0, .d e), (1, .d (.int .i64 0)), (2, .fn 93 []), (6, .d (.int .i64 20)), (7, .d (.int .i64 0)), (8, .d (.int .i64 20))] ∧ s = []) rfl ?_ ?_
      · conv => whnf
        first | exact ⟨_, rfl, _, .inl rfl, rfl, rfl⟩ | exact ⟨_, rfl, _, .inr rfl, rfl, rfl⟩
      rintro m env s ⟨rfl, e, he, rfl, rfl⟩
      have h142 := h142 e he
      rcases he with rfl | rfl
      all_goals
        conv => whnf
        refine .obj rfl ?_
        conv => whnf
        refine ⟨_, _, ⟨WkL.refl _, h142⟩, fun res s1 hs => ?_⟩
        obtain ⟨rfl, rfl⟩ := hs
        conv => whnf
        refine StopG.rounds wk120 [] [1, 6] (fun m env s => m = 0 ∧ env = [(1, .d (.int .i64 0)), (6, .d (.int .i64 20))] ∧ s = []) rfl ?_ ?_
        · conv => whnf
          exact ⟨_, rfl, rfl, rfl⟩
        rintro m env s ⟨rfl, rfl, rfl⟩
        conv => whnf
        exact ⟨rfl, rfl⟩
  rcases he with rfl | rfl
  all_goals
    refine run92 0 [] rfl rfl ?_
    conv => whnf
    refine .obj rfl ?_
    conv => whnf
    refine ⟨_, _, ⟨WkL.refl _, h120⟩, fun res s1 hs => ?_⟩
    obtain ⟨rfl, rfl⟩ := hs
    conv => whnf
    exact ⟨rfl, rfl⟩
abbrev cR (cnt fdr hop : Int) (mem : List Int) (en : AV) : AB := .cells [.d (.int .i64 cnt), .d (.int .i64 fdr), .d (.int .i64 hop), .d (.list 1 (rowsI mem)), en]
abbrev c0 : AB := .cells [.d (.int .i64 0), .d (.int .i64 0), .d (.int .i64 0), .d .nil, .d .nil]
/-- Where a round of adding begins. -/
def addI (cnt fdr hop : Int) (mem : List Int) (l : List En) (o : List Kt) (c : Nat) (m : Nat) (env : Env) (s : List (Nat × AB)) : Prop :=
  ∃ (i : Nat) (l' : List En), i ≤ o.length ∧ m = o.length - i ∧ l' = addL l (o.take i) ∧ env = [(2, .ref (.g 0) 0), (4, .ref (.g 1) 0), (14, .slc (.g 2) 3 0 o.length c), (15, .d (.int .i64 (o.length : Int))), (16, .d (.int .i64 (i : Int)))] ∧
    ((∃ e : DV, l' = [] ∧ (e = .nil ∨ e = .emp) ∧ s = [(0, cR cnt fdr hop mem (.d e)), (1, c0), (2, .row 3 (rowsK o))]) ∨
      ∃ cap, l'.length ≤ cap ∧ s = [(0, cR cnt fdr hop mem (.slc (.g 3) 5 0 l'.length cap)), (1, c0), (2, .row 3 (rowsK o)), (3, .row 5 (rowsE l'))])
/-- What comes out. -/
def addR (cnt fdr hop : Int) (mem : List Int) (L : List En) (r : AV) (t : List (Nat × AB)) : Prop :=
  (∃ e : DV, L = [] ∧ (e = .nil ∨ e = .emp) ∧ r = rgV cnt fdr hop mem (.d e) ∧ t = []) ∨ ∃ cap, L.length ≤ cap ∧ r = rgV cnt fdr hop mem (.slc (.g 0) 5 0 L.length cap) ∧ t = [(0, .row 5 (rowsE L))]
theorem wk_new (k : Kt) : WkD (.list 5 [[.int .i64 k.1, .int .i64 k.2.1, .int .i64 k.2.2, .nil, .int .i64 (-1)]]) (.list 5 [rowE (newE k)]) := by
  refine WkD.list rfl fun i r r' hr hr' => ?_
  match i, hr, hr' with
  | 0, hr, hr' =>
    cases hr
    cases hr'
    refine ⟨rfl, fun j x y hx hy => ?_⟩
    match j, hx, hy with
    | 0, hx, hy => cases hx; cases hy; exact WkD.refl _
    | 1, hx, hy => cases hx; cases hy; exact WkD.refl _
    | 2, hx, hy => cases hx; cases hy; exact WkD.refl _
    | 3, hx, hy => cases hx; cases hy; exact WkD.nil 2
    | 4, hx, hy => cases hx; cases hy; exact WkD.refl _
    | n + 5, hx, _ => simp at hx
  | n + 1, hr, _ => simp at hr
theorem addL_snoc {l : List En} {o : List Kt} {i : Nat} {k : Kt} (hk : o[i]? = some k) : addL l (o.take (i + 1)) = addE (addL l (o.take i)) k := by
  rw [List.take_add_one, hk]
  simp [addL]
set_option maxRecDepth 100000 in
theorem addStep (cnt fdr hop : Int) (mem : List Int) (l : List En) (hl : l.length ≤ 1000) (o : List Kt) (ho : o.length ≤ 1000) (c : Nat) (m : Nat) (env : Env) (s : List (Nat × AB)) (hI : addI cnt fdr hop mem l o c m env s) :
    run Try.prog cx63 0 kt63 [8] R63 (KL Try.prog cx63 0 kt63 [8] R63 (KV T Try.f63.results.toList 0 (addR cnt fdr hop mem (addL l o))) [Fr.bl 0, Fr.sq [1, 1, 1, 1, 1]] [2, 4, 14, 15, 16] (addI cnt fdr hop mem l o c) m) 100000 ⟨.code [0, 0, 1, 0, 1, 1, 1, 1], [], env, s⟩ := by
  obtain ⟨i, l', hi, rfl, hl', rfl, hs⟩ := hI
  have hln : l'.length ≤ 2000 := by
    rw [hl']
    have := addL_len (o.take i) l
    rw [List.length_take] at this
    omega
  rcases hs with ⟨e, rfl, rfl | rfl, rfl⟩ | ⟨cap, hcap, rfl⟩
  · conv => whnf
    refine bcase_intro (fun h => ?_) (fun h => ?_) <;> conv => whnf
    · have hio := lt_of h
      obtain ⟨k, hk, hd⟩ := at_i hio
      refine ⟨⟨by omega, by omega⟩, ?_⟩
      conv => whnf
      refine ⟨rowK k, row_g hk, rfl, ?_⟩
      conv => whnf
      refine .scal [awG cnt fdr hop mem [], calV k.1 k.2.1] (.d (.int .i64 (-1))) (fun _ => ⟨.a (.s _ (.s _ (.s _ (.s _ (.n 5 .nil))))) (.refl _), rfl, at87 cnt fdr hop mem [] (by simp) k.1 k.2.1⟩) ?_
      conv => whnf
      refine .ghost (GV.freeze 3 rfl (by simp) (by repeat' first | exact trivial | apply And.intro | decide | (simp; done) | omega) (by repeat' first | exact trivial | apply And.intro)) (.go wk63 [] ?_)
      conv => whnf
      refine .scal [.d (.list 5 []), .fn 97 [.d (.ptr (rowK k) 0)]] (.d (.int .i64 (-1))) ⟨.n 5 (.refl _), rfl, index96 [] (by simp) (lessK k) 97 (rowK k) (add97 k)⟩ ?_
      conv => whnf
      refine .obj rfl ?_
      conv => whnf
      refine ⟨_, _, ⟨.s _ (.s _ (.w (wk_new k) .nil)), insertE_none .nil (.inl rfl) (rowE (newE k))⟩, fun res s1 h => ?_⟩
      obtain ⟨c', hc', rfl, rfl⟩ := h
      conv => whnf
      rw [succ_i hio (by omega)]
      refine ⟨_, by omega, i + 1, [newE k], hio, rfl, ?_, rfl, .inr ⟨c', hc', rfl⟩⟩
      rw [addL_snoc hk, ← hl']
      rfl
    · have hio := ge_of h
      rw [List.take_of_length_le hio] at hl'
      exact .inl ⟨.nil, hl'.symm, .inl rfl, rfl, rfl⟩
  · conv => whnf
    refine bcase_intro (fun h => ?_) (fun h => ?_) <;> conv => whnf
    · have hio := lt_of h
      obtain ⟨k, hk, hd⟩ := at_i hio
      refine ⟨⟨by omega, by omega⟩, ?_⟩
      conv => whnf
      refine ⟨rowK k, row_g hk, rfl, ?_⟩
      conv => whnf
      refine .scal [awG cnt fdr hop mem [], calV k.1 k.2.1] (.d (.int .i64 (-1))) (fun _ => ⟨.a (.s _ (.s _ (.s _ (.s _ (.e 5 .nil))))) (.refl _), rfl, at87 cnt fdr hop mem [] (by simp) k.1 k.2.1⟩) ?_
      conv => whnf
      refine .ghost (GV.freeze 3 rfl (by simp) (by repeat' first | exact trivial | apply And.intro | decide | (simp; done) | omega) (by repeat' first | exact trivial | apply And.intro)) (.go wk63 [] ?_)
      conv => whnf
      refine .scal [.d (.list 5 []), .fn 97 [.d (.ptr (rowK k) 0)]] (.d (.int .i64 (-1))) ⟨.e 5 (.refl _), rfl, index96 [] (by simp) (lessK k) 97 (rowK k) (add97 k)⟩ ?_
      conv => whnf
      refine .obj rfl ?_
      conv => whnf
      refine ⟨_, _, ⟨.s _ (.s _ (.w (wk_new k) .nil)), insertE_none .emp (.inr rfl) (rowE (newE k))⟩, fun res s1 h => ?_⟩
      obtain ⟨c', hc', rfl, rfl⟩ := h
      conv => whnf
      rw [succ_i hio (by omega)]
      refine ⟨_, by omega, i + 1, [newE k], hio, rfl, ?_, rfl, .inr ⟨c', hc', rfl⟩⟩
      rw [addL_snoc hk, ← hl']
      rfl
    · have hio := ge_of h
      rw [List.take_of_length_le hio] at hl'
      exact .inl ⟨.emp, hl'.symm, .inr rfl, rfl, rfl⟩
  · conv => whnf
    have hrl := rowsE_len l'
    refine bcase_intro (fun h => ?_) (fun h => ?_) <;> conv => whnf
    · have hio := lt_of h
      obtain ⟨k, hk, hd⟩ := at_i hio
      have hlend : Contract Try.prog G0 87 [awG cnt fdr hop mem l', calV k.1 k.2.1] [] (fun r t => r = .d (.int .i64 (idxFrom (isC (k.1, k.2.1)) l' 0)) ∧ t = []) := at87 cnt fdr hop mem l' (by omega) k.1 k.2.1
      rw [show awG cnt fdr hop mem l' = rgV cnt fdr hop mem (.d (.list 5 ((List.drop 0 (rowsE l')).take l'.length))) by rw [List.drop_zero, List.take_of_length_le (by omega)]] at hlend
      have hix := index96O l' (by omega) (lessK k) 97 (rowK k) (add97 k)
      refine ⟨⟨by omega, by omega⟩, ?_⟩
      conv => whnf
      refine ⟨rowK k, row_g hk, rfl, ?_⟩
      conv => whnf
      refine .scal [rgV cnt fdr hop mem (.d (.list 5 ((List.drop 0 (rowsE l')).take l'.length))), calV k.1 k.2.1] _ (fun _ => ⟨.fz 3 _ rfl (by simp) (by repeat' first | exact trivial | apply And.intro | decide | (simp; done) | omega) (.refl _), rfl, hlend⟩) ?_
      conv => whnf
      refine bcase_intro (fun hg => ?_) (fun hg => ?_) <;> conv => whnf
      · have hsk : skipE l' k = true := hg
        rw [succ_i hio (by omega)]
        refine ⟨_, by omega, i + 1, l', hio, rfl, ?_, rfl, .inr ⟨cap, hcap, rfl⟩⟩
        rw [addL_snoc hk, ← hl', addE, hsk]
        rfl
      have hsk : skipE l' k = false := hg
      have hnx : addL l (o.take (i + 1)) = insE k l' := by
        rw [addL_snoc hk, ← hl', addE, hsk]
        rfl
      refine .ghost (GV.freeze 4 rfl (by simp) (by repeat' first | exact trivial | apply And.intro | decide | (simp; done) | omega) (by repeat' first | exact trivial | apply And.intro)) (.go wk63 [] ?_)
      conv => whnf
      have hil := insE_len k l'
      rcases idx_cases0 (lessK k) l' with ⟨e1, _⟩ | ⟨j, x, e1, hx, _⟩
      · rw [e1] at hix
        have hin : insE k l' = l' ++ [newE k] := by unfold insE; rw [e1]; rfl
        have hins := insertE_own (rowsE l') (by omega) l'.length (by omega) cap (by omega) (rowE (newE k))
        rw [hrl] at hins
        have hro : (rowsE l').take l'.length ++ rowE (newE k) :: (rowsE l').drop l'.length = rowsE (insE k l') := by
          rw [hin, List.take_of_length_le (by omega), List.drop_of_length_le (by omega)]
          simp [rowsE]
        rw [hro, ← hil] at hins
        refine .scal [.d (.list 5 ((List.drop 0 (rowsE l')).take l'.length)), .fn 97 [.d (.ptr (rowK k) 0)]] (.d (.int .i64 (-1))) ⟨.fz 3 (.row 5 (rowsE l')) rfl (by simp) (by repeat' first | exact trivial | apply And.intro | decide | (simp; done) | omega) (.refl _), rfl, hix⟩ ?_
        conv => whnf
        refine .obj rfl ?_
        conv => whnf
        refine ⟨_, _, ⟨.s _ (.s _ (.w (wk_new k) .nil)), hins⟩, fun res s1 h => ?_⟩
        rcases h with ⟨c', hc', rfl, rfl⟩ | ⟨c', old, hc', rfl | rfl, rfl, rfl⟩
        all_goals
          conv => whnf
          rw [succ_i hio (by omega)]
          exact ⟨_, by omega, i + 1, insE k l', hio, rfl, hnx.symm, rfl, .inr ⟨c', hc', rfl⟩⟩
      · rw [e1] at hix
        have hjl := (List.getElem?_eq_some_iff.1 hx).1
        have hin : insE k l' = l'.take j ++ newE k :: l'.drop j := by unfold insE; rw [e1]
        have hins := insertE_own (rowsE l') (by omega) j (by omega) cap (by omega) (rowE (newE k))
        rw [hrl] at hins
        have hro : (rowsE l').take j ++ rowE (newE k) :: (rowsE l').drop j = rowsE (insE k l') := by
          rw [hin]
          simp [rowsE, List.map_take, List.map_drop]
        rw [hro, ← hil] at hins
        refine .scal [.d (.list 5 ((List.drop 0 (rowsE l')).take l'.length)), .fn 97 [.d (.ptr (rowK k) 0)]] (.d (.int .i64 (j : Int))) ⟨.fz 3 (.row 5 (rowsE l')) rfl (by simp) (by repeat' first | exact trivial | apply And.intro | decide | (simp; done) | omega) (.refl _), rfl, hix⟩ ?_
        conv => whnf
        rw [show decide ((j : Int) < 0) = false from decide_eq_false (by omega)]
        conv => whnf
        refine .obj rfl ?_
        conv => whnf
        refine ⟨_, _, ⟨.s _ (.s _ (.w (wk_new k) .nil)), hins⟩, fun res s1 h => ?_⟩
        rcases h with ⟨c', hc', rfl, rfl⟩ | ⟨c', old, hc', rfl | rfl, rfl, rfl⟩
        all_goals
          conv => whnf
          rw [succ_i hio (by omega)]
          exact ⟨_, by omega, i + 1, insE k l', hio, rfl, hnx.symm, rfl, .inr ⟨c', hc', rfl⟩⟩
    · have hio := ge_of h
      rw [List.take_of_length_le hio] at hl'
      rw [← hl']
      exact .inr ⟨cap, hcap, rfl, rfl⟩
end Go.Proofs.Ytkenimmellonjaa
/- Seat r2: what is lit is added: the whole. -/
namespace Go.Proofs.Ytkenimmellonjaa
open Go.Pv Go.RowKit Go.Shelf
set_option maxRecDepth 100000 in
theorem add_cons (cnt fdr hop : Int) (mem : List Int) (hm : mem.length ≤ 100000) (l : List En) (hl : l.length ≤ 1000) (hb : ∀ e ∈ l, e.bids.length ≤ 100000) (k0 : Kt) (ks0 : List Kt) (hk : ks0.length + 1 ≤ 1000) :
    Contract Try.prog G0 63 [awG cnt fdr hop mem l, .d (.list 3 (rowsK (k0 :: ks0)))] [] (addR cnt fdr hop mem (addL l (sortK cK (k0 :: ks0)))) := by
  have hcl := clone91_cons (rowK k0) (rowsK ks0) (by rw [rowsK_len]; omega)
  rw [rowsK_len] at hcl
  have hsl : (sortK cK (k0 :: ks0)).length = ks0.length + 1 := by rw [sortK_len]; rfl
  cases l with
  | nil =>
    refine run63 0 [8] rfl rfl ?_
    conv => whnf
    refine .obj rfl ?_
    conv => whnf
    refine ⟨_, _, ⟨WkL.refl _, own_nil0 cnt fdr hop mem hm⟩, fun res s1 h => ?_⟩
    obtain ⟨h0, rfl⟩ := h
    obtain ⟨e, he, rfl⟩ : ∃ e : DV, (e = .nil ∨ e = .emp) ∧ res = rgV cnt fdr hop mem (.d e) := h0.elim (fun h => ⟨.nil, .inl rfl, h⟩) fun h => ⟨.emp, .inr rfl, h⟩
    clear h0
    rcases he with rfl | rfl
    all_goals
      conv => whnf
      refine .obj rfl ?_
      conv => whnf
      refine ⟨_, _, ⟨WkL.refl _, hcl⟩, fun res s1 h => ?_⟩
      obtain ⟨c, hc, rfl, rfl⟩ := h
      conv => whnf
      refine .obj rfl ?_
      conv => whnf
      refine ⟨_, _, ⟨WkL.refl _, sortS (k0 :: ks0) (ks0.length + 1) rfl (by omega) c⟩, fun res s1 h => ?_⟩
      obtain ⟨rfl, rfl⟩ := h
      conv => whnf
      rw [← hsl]
      generalize sortK cK (k0 :: ks0) = o at hsl
      refine StopG.rounds wk63 [8] [2, 4, 14, 15, 16] (addI cnt fdr hop mem [] o c) rfl ?_ (addStep cnt fdr hop mem [] (by simp) o (by omega) c)
      conv => whnf
      refine ⟨_, 0, [], Nat.zero_le _, rfl, rfl, rfl, .inl ⟨_, rfl, ?_, rfl⟩⟩
      first | exact .inl rfl | exact .inr rfl
  | cons e0 l0 =>
    simp only [List.length_cons] at hl
    refine run63 0 [8] rfl rfl ?_
    conv => whnf
    refine .obj rfl ?_
    conv => whnf
    refine ⟨_, _, ⟨WkL.refl _, own_cons cnt fdr hop mem hm e0 l0 (by omega) hb⟩, fun res s1 h => ?_⟩
    obtain ⟨cap, hcap, rfl, rfl⟩ := h
    generalize hle : e0 :: l0 = l at hb
    have hll : l.length = l0.length + 1 := by rw [← hle]; rfl
    rw [← hll] at hcap ⊢
    conv => whnf
    refine .obj rfl ?_
    conv => whnf
    refine ⟨_, _, ⟨WkL.refl _, hcl⟩, fun res s1 h => ?_⟩
    obtain ⟨c, hc, rfl, rfl⟩ := h
    conv => whnf
    refine .obj rfl ?_
    conv => whnf
    refine ⟨_, _, ⟨WkL.refl _, sortS (k0 :: ks0) (ks0.length + 1) rfl (by omega) c⟩, fun res s1 h => ?_⟩
    obtain ⟨rfl, rfl⟩ := h
    conv => whnf
    rw [← hsl]
    generalize sortK cK (k0 :: ks0) = o at hsl
    refine StopG.rounds wk63 [8] [2, 4, 14, 15, 16] (addI cnt fdr hop mem l o c) rfl ?_ (addStep cnt fdr hop mem l (by omega) o (by omega) c)
    conv => whnf
    exact ⟨_, 0, l, Nat.zero_le _, rfl, rfl, rfl, .inr ⟨cap, hcap, rfl⟩⟩
set_option maxRecDepth 100000 in
theorem add_none (cnt fdr hop : Int) (mem : List Int) (hm : mem.length ≤ 100000) (l : List En) (hl : l.length ≤ 1000) (hb : ∀ e ∈ l, e.bids.length ≤ 100000) :
    Contract Try.prog G0 63 [awG cnt fdr hop mem l, .d (.list 3 (rowsK []))] [] (addR cnt fdr hop mem l) := by
  cases l with
  | nil =>
    refine run63 0 [8] rfl rfl ?_
    conv => whnf
    refine .obj rfl ?_
    conv => whnf
    refine ⟨_, _, ⟨WkL.refl _, own_nil0 cnt fdr hop mem hm⟩, fun res s1 h => ?_⟩
    obtain ⟨h0, rfl⟩ := h
    obtain ⟨e, he, rfl⟩ : ∃ e : DV, (e = .nil ∨ e = .emp) ∧ res = rgV cnt fdr hop mem (.d e) := h0.elim (fun h => ⟨.nil, .inl rfl, h⟩) fun h => ⟨.emp, .inr rfl, h⟩
    clear h0
    rcases he with rfl | rfl
    all_goals
      conv => whnf
      refine .obj rfl ?_
      conv => whnf
      refine ⟨_, _, ⟨WkL.refl _, clone91_nil⟩, fun res s1 h => ?_⟩
      obtain ⟨rfl | rfl, rfl⟩ := h
      all_goals
        conv => whnf
        refine .obj rfl ?_
        conv => whnf
        refine ⟨_, _, ⟨WkL.refl _, sortS_none _ (by simp)⟩, fun res s1 h => ?_⟩
        obtain ⟨rfl, rfl⟩ := h
        conv => whnf
        refine StopG.rounds wk63 [8] [2, 4, 15, 16] (fun m env s => ∃ e : DV, (e = .nil ∨ e = .emp) ∧ m = 0 ∧ env = [(2, .ref (.g 0) 0), (4, .ref (.g 1) 0), (15, .d (.int .i64 0)), (16, .d (.int .i64 0))] ∧ s = [(0, cR cnt fdr hop mem (.d e)), (1, c0)]) rfl ?_ ?_
        · conv => whnf
          refine ⟨_, _, ?_, rfl, rfl, rfl⟩
          first | exact .inl rfl | exact .inr rfl
        rintro m env s ⟨e, rfl | rfl, rfl, rfl, rfl⟩
        · conv => whnf
          exact .inl ⟨_, rfl, .inl rfl, rfl, rfl⟩
        · conv => whnf
          exact .inl ⟨_, rfl, .inr rfl, rfl, rfl⟩
  | cons e0 l0 =>
    simp only [List.length_cons] at hl
    refine run63 0 [8] rfl rfl ?_
    conv => whnf
    refine .obj rfl ?_
    conv => whnf
    refine ⟨_, _, ⟨WkL.refl _, own_cons cnt fdr hop mem hm e0 l0 (by omega) hb⟩, fun res s1 h => ?_⟩
    obtain ⟨cap, hcap, rfl, rfl⟩ := h
    generalize hle : e0 :: l0 = l at hb
    have hll : l.length = l0.length + 1 := by rw [← hle]; rfl
    rw [← hll] at hcap ⊢
    conv => whnf
    refine .obj rfl ?_
    conv => whnf
    refine ⟨_, _, ⟨WkL.refl _, clone91_nil⟩, fun res s1 h => ?_⟩
    obtain ⟨rfl | rfl, rfl⟩ := h
    all_goals
      conv => whnf
      refine .obj rfl ?_
      conv => whnf
      refine ⟨_, _, ⟨WkL.refl _, sortS_none _ (by simp)⟩, fun res s1 h => ?_⟩
      obtain ⟨rfl, rfl⟩ := h
      conv => whnf
      refine StopG.rounds wk63 [8] [2, 4, 15, 16] (fun m env s => m = 0 ∧ env = [(2, .ref (.g 0) 0), (4, .ref (.g 1) 0), (15, .d (.int .i64 0)), (16, .d (.int .i64 0))] ∧ s = [(0, cR cnt fdr hop mem (.slc (.g 2) 5 0 l.length cap)), (1, c0), (2, .row 5 (rowsE l))]) rfl ?_ ?_
      · conv => whnf
        exact ⟨_, rfl, rfl, rfl⟩
      rintro m env s ⟨rfl, rfl, rfl⟩
      conv => whnf
      exact .inr ⟨cap, hcap, rfl, rfl⟩
/-- As data. -/
theorem add (cnt fdr hop : Int) (mem : List Int) (hm : mem.length ≤ 100000) (l : List En) (hl : l.length ≤ 1000) (hb : ∀ e ∈ l, e.bids.length ≤ 100000) (ks : List Kt) (hk : ks.length ≤ 1000) :
    Contract Try.prog G0 63 [awG cnt fdr hop mem l, .d (.list 3 (rowsK ks))] [] (fun r t => r = awG cnt fdr hop mem (addL l (sortK cK ks)) ∧ t = []) := by
  have key : Contract Try.prog G0 63 [awG cnt fdr hop mem l, .d (.list 3 (rowsK ks))] [] (addR cnt fdr hop mem (addL l (sortK cK ks))) := by
    cases ks with
    | nil => exact add_none cnt fdr hop mem hm l hl hb
    | cons k0 ks0 => exact add_cons cnt fdr hop mem hm l hl hb k0 ks0 (by simpa using hk)
  generalize addL l (sortK cK ks) = L at key
  refine key.told fun r t hr => ?_
  have hrl := rowsE_len L
  rcases hr with ⟨e, h0, he, rfl, rfl⟩ | ⟨cap, hc, rfl, rfl⟩
  · rw [h0]
    refine ⟨awG cnt fdr hop mem [], ?_, rfl, rfl, rfl⟩
    rcases he with rfl | rfl
    · exact GV.weak (cx := cx1 G0) (n := 0) (env := [(0, rgV cnt fdr hop mem (.d .nil))]) (s := []) (wkA 5) rfl fun _ _ _ _ _ h => wkA_rv 5 h
    · exact GV.weak (cx := cx1 G0) (n := 0) (env := [(0, rgV cnt fdr hop mem (.d .emp))]) (s := []) (wkA 5) rfl fun _ _ _ _ _ h => wkA_rv 5 h
  · refine ⟨awG cnt fdr hop mem L, ?_, rfl, rfl, rfl⟩
    refine GV.trans (GV.freeze 0 rfl (by simp) (by repeat' first | exact trivial | apply And.intro | decide | (simp; done) | (simp; omega) | omega) (by repeat' first | exact trivial | apply And.intro)) (GV.tidied [0] ?_)
    conv => whnf
    rw [List.drop_zero, List.take_of_length_le (by omega)]
    exact ⟨rfl, rfl⟩
end Go.Proofs.Ytkenimmellonjaa
/- Seat r2: entries the same; a hop further. -/
namespace Go.Proofs.Ytkenimmellonjaa
open Go.Pv Go.RowKit Go.Shelf
set_option maxRecDepth 100000 in
theorem sameBids99 (a b : List B) (ha : a.length ≤ 4611686018427387904) : Contract Try.prog G0 99 [.d (.list 2 (rowsB a)), .d (.list 2 (rowsB b))] [] (fun r t => r = .d (.bool (a == b)) ∧ t = []) := by
  have hlen := rowsB_len a
  have hlen2 := rowsB_len b
  refine run99 0 [] rfl rfl ?_
  conv => whnf
  refine bcase_intro (fun h => ?_) (fun h => ?_) <;> conv => whnf
  · rw [hlen, hlen2] at h
    refine ⟨rd_bool ?_, rfl⟩
    symm
    rw [beq_eq_false_iff_ne]
    rintro rfl
    simp at h
  have hab : a.length = b.length := by
    rw [hlen, hlen2] at h
    simp at h
    omega
  refine StopG.rounds wk99 [] [0, 1, 5] (fun m env s => ∃ i : Nat, i ≤ a.length ∧ m = a.length - i ∧ a.take i = b.take i ∧
    env = [(0, .d (.list 2 (rowsB a))), (1, .d (.list 2 (rowsB b))), (5, .d (.int .i64 (i : Int)))] ∧ s = []) rfl ?_ ?_
  · conv => whnf
    exact ⟨_, 0, Nat.zero_le _, rfl, rfl, rfl, rfl⟩
  rintro m env s ⟨i, hi, rfl, heq, rfl, rfl⟩
  conv => whnf
  refine bcase_intro (fun h => ?_) (fun h => ?_) <;> conv => whnf
  · have h := lt_of h
    rw [hlen] at h
    obtain ⟨x, hx, hdrop⟩ := at_i h
    obtain ⟨y, hy, hdrop2⟩ := at_i (l := b) (i := i) (by omega)
    refine ⟨rowB x, ⟨by omega, row_i hx⟩, ?_⟩
    conv => whnf
    refine ⟨rowB y, ⟨by omega, row_i hy⟩, ?_⟩
    conv => whnf
    refine .scal [bidv x, bidv y] _ ⟨.refl _, rfl, sameC x y⟩ ?_
    conv => whnf
    refine bcase_intro (fun h2 => ?_) (fun h2 => ?_) <;> conv => whnf
    · refine ⟨rd_bool ?_, rfl⟩
      symm
      rw [beq_eq_false_iff_ne]
      intro e
      subst e
      rw [hx] at hy
      cases hy
      rw [show sameB x x = true by simp [sameB]] at h2
      cases h2
    · rw [succ_i h ha]
      refine ⟨_, by omega, i + 1, h, rfl, ?_, rfl, rfl⟩
      have h2 : x = y := by
        have h3 : sameB x y = true := by simpa using h2
        simp only [sameB, Bool.and_eq_true, beq_iff_eq] at h3
        exact Prod.ext h3.1 h3.2
      rw [List.take_add_one, List.take_add_one, heq, hx, hy, h2]
  · have h := ge_of h
    rw [hlen] at h
    refine ⟨rd_bool ?_, rfl⟩
    rw [List.take_of_length_le h, List.take_of_length_le (by omega)] at heq
    symm
    simp [heq]

def sameE (x y : En) : Bool := bif (bif (bif (bif x.fl == y.fl then x.dr == y.dr else false) then x.gn == y.gn else false) then x.bids == y.bids else false) then x.aw == y.aw else false
set_option maxRecDepth 100000 in
theorem sameEntry (x y : En) (hx : x.bids.length ≤ 4611686018427387904) : Contract Try.prog G0 64 [entV x, entV y] [] (fun r t => r = .d (.bool (sameE x y)) ∧ t = []) := by
  refine run64 0 [] rfl rfl ?_
  conv => whnf
  refine .scal [latV x.fl x.dr x.gn, latV y.fl y.dr y.gn] _ ⟨.refl _, rfl, sameLatch _ _ _ _ _ _⟩ ?_
  conv => whnf
  refine .scal [.d (.list 2 (rowsB x.bids)), .d (.list 2 (rowsB y.bids))] _ (fun _ => ⟨.refl _, rfl, sameBids99 x.bids y.bids hx⟩) ?_
  conv => whnf
  exact ⟨rfl, rfl⟩
theorem sameE_refl (x : En) : sameE x x = true := by simp [sameE]
def passR (hop : Int) : Bool := !decide (hop ≥ 1099511627776)
def passH (hop : Int) : Int := bif decide (hop ≥ 1099511627776) then hop else IntKind.wrap .i64 (hop + 1)
set_option maxRecDepth 100000 in
theorem pass_nil (cnt fdr hop : Int) (mem : List Int) (hm : mem.length ≤ 100000) : Contract Try.prog G0 66 [awG cnt fdr hop mem []] [] (fun r t => r = .tup [awG cnt fdr (passH hop) mem [], .d (.bool (passR hop))] ∧ t = []) := by
  refine run66 0 [] rfl rfl ?_
  conv => whnf
  refine .obj rfl ?_
  conv => whnf
  refine ⟨_, _, ⟨WkL.refl _, own_nil cnt fdr hop mem hm⟩, fun res s1 h => ?_⟩
  obtain ⟨rfl, rfl⟩ := h
  conv => whnf
  refine bcase_intro (fun h => ?_) (fun h => ?_) <;> conv => whnf
  · rw [passH, passR, h]
    exact ⟨rfl, rfl⟩
  · rw [passH, passR, h]
    exact ⟨rfl, rfl⟩
set_option maxRecDepth 100000 in
theorem pass_cons (cnt fdr hop : Int) (mem : List Int) (hm : mem.length ≤ 100000) (e0 : En) (l0 : List En) (hl : l0.length ≤ 1000) (hb : ∀ e ∈ e0 :: l0, e.bids.length ≤ 100000) :
    Contract Try.prog G0 66 [awG cnt fdr hop mem (e0 :: l0)] [] (fun r t => ∃ c, l0.length + 1 ≤ c ∧ r = .tup [rgV cnt fdr (passH hop) mem (.slc (.g 0) 5 0 (l0.length + 1) c), .d (.bool (passR hop))] ∧ t = [(0, .row 5 (rowsE (e0 :: l0)))]) := by
  refine run66 0 [] rfl rfl ?_
  conv => whnf
  refine .obj rfl ?_
  conv => whnf
  refine ⟨_, _, ⟨WkL.refl _, own_cons cnt fdr hop mem hm e0 l0 hl hb⟩, fun res s1 h => ?_⟩
  obtain ⟨c, hc, rfl, rfl⟩ := h
  conv => whnf
  refine bcase_intro (fun h => ?_) (fun h => ?_) <;> conv => whnf
  · rw [passH, passR, h]
    exact ⟨c, hc, rfl, rfl⟩
  · rw [passH, passR, h]
    exact ⟨c, hc, rfl, rfl⟩
theorem pass (cnt fdr hop : Int) (mem : List Int) (hm : mem.length ≤ 100000) (l : List En) (hl : l.length ≤ 1000) (hb : ∀ e ∈ l, e.bids.length ≤ 100000) :
    Contract Try.prog G0 66 [awG cnt fdr hop mem l] [] (fun r t => r = .tup [awG cnt fdr (passH hop) mem l, .d (.bool (passR hop))] ∧ t = []) := by
  cases l with
  | nil => exact pass_nil cnt fdr hop mem hm
  | cons e0 l0 =>
    refine (pass_cons cnt fdr hop mem hm e0 l0 (by simp at hl; omega) hb).told fun r t hr => ?_
    obtain ⟨c, hc, rfl, rfl⟩ := hr
    refine ⟨.tup [awG cnt fdr (passH hop) mem (e0 :: l0), .d (.bool (passR hop))], ?_, rfl, rfl, rfl⟩
    have hrl := rowsE_len (e0 :: l0)
    simp only [List.length_cons] at hrl
    refine GV.trans (GV.freeze 0 rfl (by simp) (by repeat' first | exact trivial | apply And.intro | decide | (simp; done) | (simp; omega) | omega) (by repeat' first | exact trivial | apply And.intro)) (GV.tidied [0] ?_)
    conv => whnf
    rw [List.drop_zero, List.take_of_length_le (by omega)]
    exact ⟨rfl, rfl⟩
end Go.Proofs.Ytkenimmellonjaa
/- Seat r2: what is awarded is somebody's: the walk. -/
namespace Go.Proofs.Ytkenimmellonjaa
open Go.Pv Go.RowKit Go.Shelf
theorem add_i {a b : Nat} (h : a + b ≤ 4611686018427387904) : IntKind.wrap .i64 ((a : Int) + (b : Int)) = ((a + b : Nat) : Int) := by
  rw [show (a : Int) + (b : Int) = ((a + b : Nat) : Int) by omega]
  exact wrap_id (by omega) (by omega)
theorem sum_snoc {f : Int → Nat} {l : List Int} {i : Nat} {x : Int} (hx : l[i]? = some x) : ((l.take (i + 1)).map f).sum = ((l.take i).map f).sum + f x := by
  rw [List.take_add_one, hx]
  simp
theorem sum_le {f : Int → Nat} {b : Nat} (h : ∀ x, f x ≤ b) : ∀ (l : List Int), (l.map f).sum ≤ l.length * b
  | [] => by simp
  | x :: r => by
    have h1 := sum_le h r
    have h2 := h x
    simp only [List.map_cons, List.sum_cons, List.length_cons, Nat.succ_mul]
    omega
def nnB (e : En) : Bool := decide (e.aw ≥ 0)
theorem cnt_snoc {l : List En} {i : Nat} {x : En} (hx : l[i]? = some x) : ((l.take (i + 1)).filter nnB).length = ((l.take i).filter nnB).length + (if nnB x = true then 1 else 0) := by
  rw [List.take_add_one, hx]
  simp only [List.filter_append, List.length_append, Option.toList]
  cases h : nnB x <;> simp [h]
theorem cnt_le (l : List En) (i : Nat) : ((l.take i).filter nnB).length ≤ l.length := Nat.le_trans (List.length_filter_le _ _) (by simp; omega)
theorem awE_same {mem : List Int} {x : En} (h : nnB x = true) : awE mem x = x := by
  refine awE_not ?_
  have h1 : x.aw ≥ 0 := by simpa [nnB] using h
  rw [wonE, show decide (x.aw < 0) = false from decide_eq_false (by omega)]; rfl
abbrev celR (cnt fdr hop : Int) (mem : List Int) (l : List En) : AB := .cells [.d (.int .i64 cnt), .d (.int .i64 fdr), .d (.int .i64 hop), .d (.list 1 (rowsI mem)), .d (.list 5 (rowsE l))]
set_option maxRecDepth 100000 in
theorem ledgerMine (cnt fdr hop : Int) (mem : List Int) (l : List En) (hl : l.length ≤ maxLen) : Contract Try.prog G0 12 [awG cnt fdr hop mem l] [] (fun r t => r = .d (.bool true) ∧ t = []) := by
  refine run12 0 [] rfl rfl ?_
  conv => whnf
  refine .scal [] _ ⟨.refl _, rfl, first47⟩ ?_
  conv => whnf
  refine .scal [awG cnt fdr hop mem l] _ ⟨.refl _, rfl, light cnt fdr hop mem l hl⟩ ?_
  conv => whnf
  refine bcase_intro (fun hli => ?_) (fun hli => ?_) <;> conv => whnf
  · exact ⟨rfl, rfl⟩
  have ok := light_ok (show lightB cnt fdr hop mem l = true by simpa using hli)
  have hlen := rowsE_len l
  have hmn := rowsI_len mem
  have hm := ok.ml
  have hl := ok.ll
  have hbb : ∀ e ∈ l, e.bids.length ≤ 100000 := fun e he => Nat.le_trans (ok.bl e he) (by decide)
  have hbb2 : ∀ e ∈ l.map (awE mem), e.bids.length ≤ 100000 := by
    intro e he
    obtain ⟨y, hy, rfl⟩ := List.mem_map.1 he
    have h1 := hbb y hy
    rw [awE]; split <;> exact h1
  refine .data [awG cnt fdr hop mem l] _ ⟨.refl _, rfl, award cnt fdr hop mem (by omega) l (by omega) hbb⟩ ?_
  generalize hL : l.map (awE mem) = L at hbb2
  have hLl : L.length = l.length := by rw [← hL, List.length_map]
  conv => whnf
  have hLn := rowsE_len L
  refine StopG.rounds wk12 [] [1, 3, 4, 5, 6, 7] (fun m env s => ∃ i : Nat, i ≤ mem.length ∧ m = mem.length - i ∧ env = [(1, .ref (.g 0) 0), (3, .d (.bool true)), (4, .ref (.g 1) 0), (5, .d (.list 5 (rowsE (wonL mem l)))), (6, .d (.int .i64 ((((mem.take i).map fun x => (mineL x L).length).sum : Nat) : Int))), (7, .d (.int .i64 (i : Int)))] ∧ s = [(0, celR cnt fdr hop mem l), (1, celR cnt fdr hop mem L)]) rfl ?_ ?_
  · conv => whnf
    exact ⟨_, 0, Nat.zero_le _, rfl, rfl, rfl⟩
  rintro m env s ⟨i, hi, rfl, rfl, rfl⟩
  conv => whnf
  refine bcase_intro (fun h => ?_) (fun h => ?_) <;> conv => whnf
  · have hil := lt_of h
    rw [hmn] at hil
    obtain ⟨x, hx, hdrop⟩ := at_i hil
    refine ⟨rowI x, ⟨by omega, row_i hx⟩, ?_⟩
    conv => whnf
    refine .data [awG cnt fdr hop mem L, .d (.int .i64 x)] _ ⟨.refl _, rfl, mine cnt fdr hop mem L (by omega) x⟩ ?_
    conv => whnf
    have hkl := rowsK_len (mineL x L)
    have hml := mineL_len x L
    have hsl := sum_le (f := fun x => (mineL x L).length) (b := L.length) (fun x => mineL_len x L) (mem.take i)
    have hsl2 : (((mem.take i).map fun x => (mineL x L).length).sum) ≤ 16 * 30 := Nat.le_trans hsl (Nat.mul_le_mul (by simp; omega) (by omega))
    rw [hkl, add_i (by omega), ← sum_snoc (f := fun x => (mineL x L).length) hx]
    refine StopG.rounds wk12 [] [1, 3, 4, 5, 6, 7, 8, 9] (fun m env s => ∃ a : Nat, a ≤ (mineL x L).length ∧ m = (mineL x L).length - a ∧ env = [(1, .ref (.g 0) 0), (3, .d (.bool true)), (4, .ref (.g 1) 0), (5, .d (.list 5 (rowsE (wonL mem l)))), (6, .d (.int .i64 (((((mem.take (i + 1)).map fun x => (mineL x L).length).sum : Nat) : Int) : Int))), (7, .d (.int .i64 (i : Int))), (8, .d (.list 3 (rowsK (mineL x L)))), (9, .d (.int .i64 (a : Int)))] ∧ s = [(0, celR cnt fdr hop mem l), (1, celR cnt fdr hop mem L)]) rfl ?_ ?_
    · conv => whnf
      exact ⟨_, 0, Nat.zero_le _, rfl, rfl, rfl⟩
    rintro m env s ⟨a, ha, rfl, rfl, rfl⟩
    conv => whnf
    refine bcase_intro (fun h => ?_) (fun h => ?_) <;> conv => whnf
    · have hal := lt_of h
      rw [hkl] at hal
      obtain ⟨k, hk, _⟩ := at_i hal
      refine StopG.rounds wk12 [] [1, 3, 4, 5, 6, 7, 8, 9, 10] (fun m env s => ∃ j : Nat, j ≤ mem.length ∧ m = mem.length - j ∧ env = [(1, .ref (.g 0) 0), (3, .d (.bool true)), (4, .ref (.g 1) 0), (5, .d (.list 5 (rowsE (wonL mem l)))), (6, .d (.int .i64 (((((mem.take (i + 1)).map fun x => (mineL x L).length).sum : Nat) : Int) : Int))), (7, .d (.int .i64 (i : Int))), (8, .d (.list 3 (rowsK (mineL x L)))), (9, .d (.int .i64 (a : Int))), (10, .d (.int .i64 (j : Int)))] ∧ s = [(0, celR cnt fdr hop mem l), (1, celR cnt fdr hop mem L)]) rfl ?_ ?_
      · conv => whnf
        exact ⟨_, 0, Nat.zero_le _, rfl, rfl, rfl⟩
      rintro m env s ⟨j, hj, rfl, rfl, rfl⟩
      conv => whnf
      refine bcase_intro (fun h => ?_) (fun h => ?_) <;> conv => whnf
      · have hjl := lt_of h
        rw [hmn] at hjl
        obtain ⟨y, hy, _⟩ := at_i hjl
        refine ⟨rowI y, fun _ => ⟨by omega, row_i hy⟩, ?_⟩
        conv => whnf
        refine .data [awG cnt fdr hop mem L, .d (.int .i64 y)] _ (fun _ => ⟨.refl _, rfl, mine cnt fdr hop mem L (by omega) y⟩) ?_
        conv => whnf
        refine ⟨rowK k, fun _ => ⟨by omega, row_i hk⟩, ?_⟩
        conv => whnf
        refine .scal [.d (.list 3 (rowsK (mineL y L))), latV k.1 k.2.1 k.2.2] _ (fun _ => ⟨.refl _, rfl, hasLatch (mineL y L) (Nat.le_trans (mineL_len y L) (by omega)) k.1 k.2.1 k.2.2⟩) ?_
        conv => whnf
        refine bcase_intro (fun hg => ?_) (fun hg => ?_) <;> conv => whnf
        · have hji : j ≠ i := by
            rintro rfl
            rw [show (((j : Nat) : Int) != ((j : Nat) : Int)) = false by simp] at hg
            cases hg
          have h1 := ok.apart i j x y hx hy hji k (by rw [hL]; exact List.mem_of_getElem? hk)
          rw [hL] at h1
          have h1 : hasK (mineL y L) (k.fst, k.snd.fst, k.snd.snd) = false := h1
          rw [h1] at hg
          revert hg
          cases ((j : Int) != (i : Int)) <;> exact fun hg => absurd hg (by decide)
        · rw [succ_i hjl (by omega)]
          exact ⟨_, by omega, j + 1, hjl, rfl, rfl, rfl⟩
      · rw [succ_i hal (by omega)]
        exact ⟨_, by omega, a + 1, hal, rfl, rfl, rfl⟩
    · rw [succ_i hil (by omega)]
      exact ⟨_, by omega, i + 1, hil, rfl, rfl, rfl⟩
  have hil := ge_of h
  rw [hmn] at hil
  rw [List.take_of_length_le hil]
  rw [hLn, hlen, hLl]
  have hne : ((l.length : Int) != (l.length : Int)) = false := by simp
  rw [hne]
  conv => whnf
  refine StopG.rounds wk12 [] [1, 3, 4, 5, 6, 11, 12, 13] (fun m env s => ∃ i : Nat, i ≤ l.length ∧ m = l.length - i ∧ env = [(1, .ref (.g 0) 0), (3, .d (.bool true)), (4, .ref (.g 1) 0), (5, .d (.list 5 (rowsE (wonL mem l)))), (6, .d (.int .i64 (((mem.map fun x => (mineL x L).length).sum : Nat) : Int))), (11, .d (.int .i64 (((L.take i).filter nnB).length : Int))), (12, .d (.int .i64 (((l.take i).filter nnB).length : Int))), (13, .d (.int .i64 (i : Int)))] ∧ s = [(0, celR cnt fdr hop mem l), (1, celR cnt fdr hop mem L)]) rfl ?_ ?_
  · conv => whnf
    exact ⟨_, 0, Nat.zero_le _, rfl, rfl, rfl⟩
  clear hil h hi i
  rintro m env s ⟨i, hi, rfl, rfl, rfl⟩
  conv => whnf
  refine bcase_intro (fun h => ?_) (fun h => ?_) <;> conv => whnf
  · have hil := lt_of h
    rw [hLn, hLl] at hil
    obtain ⟨x, hx, _⟩ := at_i hil
    have hX : L[i]? = some (awE mem x) := by rw [← hL, List.getElem?_map, hx]; rfl
    have hc1 := cnt_snoc hX
    have hc2 := cnt_snoc hx
    have hc3 := cnt_le L i
    have hc4 := cnt_le l i
    refine ⟨rowE (awE mem x), ⟨by omega, row_i hX⟩, ?_⟩
    conv => whnf
    refine bcase_intro (fun hg => ?_) (fun hg => ?_) <;> conv => whnf
    · have hg : nnB (awE mem x) = true := hg
      rw [if_pos hg] at hc1
      refine ⟨rowE x, ⟨by omega, row_i hx⟩, ?_⟩
      conv => whnf
      refine bcase_intro (fun hq => ?_) (fun hq => ?_) <;> conv => whnf
      · have hq : nnB x = true := hq
        rw [if_pos hq] at hc2
        have hsame := awE_same (mem := mem) hq
        refine ⟨rowE (awE mem x), ⟨by omega, row_i hX⟩, ?_⟩
        conv => whnf
        refine ⟨rowE x, ⟨by omega, row_i hx⟩, ?_⟩
        conv => whnf
        refine bcase_intro (fun hz => ?_) (fun hz => ?_) <;> conv => whnf
        · rw [hsame] at hz
          simp at hz
        · rw [succ_i hil (by omega), succ_i (i := ((L.take i).filter nnB).length) (Nat.lt_succ_self _) (by omega), succ_i (i := ((l.take i).filter nnB).length) (Nat.lt_succ_self _) (by omega), ← hc1, ← hc2]
          exact ⟨_, by omega, i + 1, hil, rfl, rfl, rfl⟩
      · have hq : nnB x = false := hq
        rw [if_neg (by rw [hq]; decide), Nat.add_zero (List.length _)] at hc2
        rw [succ_i hil (by omega), succ_i (i := ((L.take i).filter nnB).length) (Nat.lt_succ_self _) (by omega), ← hc1, ← hc2]
        exact ⟨_, by omega, i + 1, hil, rfl, rfl, rfl⟩
    · have hg : nnB (awE mem x) = false := hg
      rw [if_neg (by rw [hg]; decide), Nat.add_zero (List.length _)] at hc1
      refine ⟨rowE x, ⟨by omega, row_i hx⟩, ?_⟩
      conv => whnf
      refine bcase_intro (fun hq => ?_) (fun hq => ?_) <;> conv => whnf
      · have hq : nnB x = true := hq
        rw [awE_same hq, hq] at hg
        cases hg
      · have hq : nnB x = false := hq
        rw [if_neg (by rw [hq]; decide), Nat.add_zero (List.length _)] at hc2
        rw [succ_i hil (by omega), ← hc1, ← hc2]
        exact ⟨_, by omega, i + 1, hil, rfl, rfl, rfl⟩
  have hil := ge_of h
  rw [hLn, hLl] at hil
  rw [List.take_of_length_le hil, List.take_of_length_le (by omega)]
  refine .data [awG cnt fdr hop mem L] _ ⟨.refl _, rfl, award cnt fdr hop mem (by omega) L (by omega) hbb2⟩ ?_
  conv => whnf
  refine .data [awG cnt fdr hop mem L, .d (.int .i64 (-1))] _ (fun _ => ⟨.refl _, rfl, mine cnt fdr hop mem L (by omega) (-1)⟩) ?_
  conv => whnf
  refine .data [awG cnt fdr hop mem L, .d (.int .i64 99)] _ (fun _ => ⟨.refl _, rfl, mine cnt fdr hop mem L (by omega) 99⟩) ?_
  conv => whnf
  have a1 : (mem.map fun x => (mineL x L).length).sum = (L.filter nnB).length := by
    have := ok.sum
    rw [hL] at this; exact this
  have a2 : (L.filter nnB).length = (l.filter nnB).length + (wonL mem l).length := by
    have := ok.count
    rw [hL] at this; exact this
  have a3 := ok.again
  have a4 := ok.no1
  have a5 := ok.no99
  rw [hL] at a3 a4 a5
  have hw1 : (wonL mem l).length ≤ 30 := by
    rw [wonL, List.length_map]
    exact Nat.le_trans (List.length_filter_le _ _) (by omega)
  have hw2 : (l.filter nnB).length ≤ 30 := Nat.le_trans (List.length_filter_le _ _) (by omega)
  rw [rowsE_len, add_i (by omega), a1, ← a2, a3, a4, a5]
  refine ⟨?_, rfl⟩
  simp [rowsE, rowsK]
end Go.Proofs.Ytkenimmellonjaa
/- FoundLeast. -/
namespace Go.Proofs.Ytkenimmellonjaa
open Go.Pv Go.RowKit Go.Shelf

theorem num24 (n : Int) (m : Nat) (hm : 0 < m) (hm2 : m ≤ 4611686018427387904) : Contract Try.prog G0 24 [.d (.int .i64 n), .d (.int .i64 (m : Int))] [] (fun r t => r = .d (.int .i64 (numB n m : Int)) ∧ t = []) := number n m hm hm2
def butI (l : List Int) (k : Nat) : List Int := l.take k ++ l.drop (k + 1)
def putsI (l : List Int) : List Int := set6 (l.map fun x => ((numB x 16 : Nat) : Int))
theorem putsI_inc (l : List Int) : IncI (putsI l) := by unfold putsI; rw [set6_eq]; exact setI_inc _
theorem memb_but {l : List Int} (h : IncI l) {k : Nat} {x : Int} (hx : l[k]? = some x) : membI (butI l k) x = l := by
  refine inc_eq (setI_inc _) h fun y => ?_
  obtain ⟨hk, hkx⟩ := List.getElem?_eq_some_iff.1 hx
  have e : l = l.take k ++ x :: l.drop (k + 1) := by
    conv => lhs; rw [← List.take_append_drop k l, List.drop_eq_getElem_cons hk, hkx]
  rw [membI, setI_mem, butI]
  conv => rhs; rw [e]
  simp only [List.mem_append, List.mem_cons]
  constructor
  · rintro ((h | h) | h)
    · exact .inl h
    · exact .inr (.inr h)
    · rcases h with h | h
      · exact .inr (.inl h)
      · cases h
  · rintro (h | h | h)
    · exact .inl (.inl h)
    · exact .inr (.inl h)
    · exact .inl (.inr h)
def wantI (since waited : Int) (inr : Bool) : Bool := bif decide (waited > 72) then (bif !inr then true else decide (since > 72)) else false
theorem pat16 : patI 16 = 72 := by decide
theorem should_at {l : List Int} (h : IncI l) {k : Nat} {x : Int} (hx : l[k]? = some x) (since waited : Int) (inr : Bool) :
    shouldI x 16 false inr (butI l k) (if inr then l else []) since waited = (bif k == 0 then wantI since waited inr else false) := by
  unfold shouldI wantI
  rw [memb_but h hx, pat16]
  obtain ⟨hk, hkx⟩ := List.getElem?_eq_some_iff.1 hx
  have hw : decide (waited ≤ 72) = !decide (waited > 72) := by
    rw [← decide_not]
    congr 1
    exact propext ⟨fun h => by omega, fun h => by omega⟩
  rw [hw]
  cases k with
  | zero =>
    have : headI l = x := by simp [headI, hx]
    rw [this]
    cases inr <;> cases decide (waited > 72) <;> simp
  | succ k =>
    have : (headI l == x) = false := by
      have h0 : 0 < l.length := by omega
      have h1 : headI l = l[0] := by simp [headI, List.getElem?_eq_getElem h0]
      have h2 := List.pairwise_iff_getElem.1 h 0 (k + 1) h0 hk (by omega)
      rw [h1]
      rw [hkx] at h2
      simp
      omega
    rw [this]
    simp
/-- The others, so far. -/
def butN (l : List Int) (k i : Nat) : List Int := (butI (l.take i) k)
theorem butN_step {l : List Int} {k i : Nat} {x : Int} (hx : l[i]? = some x) : butN l k (i + 1) = if i = k then butN l k i else butN l k i ++ [x] := by
  have hi := (List.getElem?_eq_some_iff.1 hx).1
  unfold butN butI
  rw [List.take_add_one, hx]
  simp only [Option.toList_some]
  have hl : (l.take i).length = i := by rw [List.length_take]; omega
  split
  · rename_i h
    subst h
    rw [List.take_append_of_le_length (by omega), List.drop_append, hl, List.drop_eq_nil_of_le (by omega)]
    simp
  · rename_i h
    rcases Nat.lt_or_ge i k with h1 | h1
    · rw [List.take_of_length_le (l := l.take i ++ [x]) (by simp; omega), @List.drop_eq_nil_of_le _ (l.take i ++ [x]) _ (by simp; omega), List.take_of_length_le (l := l.take i) (by omega), @List.drop_eq_nil_of_le _ (l.take i) _ (by omega)]
      simp
    · rw [List.take_append_of_le_length (by omega), List.drop_append_of_le_length (by omega), List.append_assoc]
theorem putsI_take {l : List Int} {i : Nat} {x : Int} (hx : l[i]? = some x) : putsI (l.take (i + 1)) = putI (putsI (l.take i)) ((numB x 16 : Nat) : Int) := by
  unfold putsI set6
  rw [List.take_add_one, hx]
  simp [List.foldl_append]
theorem putsI_len (l : List Int) : (putsI l).length ≤ l.length := by
  have := set6_len (l.map fun x => ((numB x 16 : Nat) : Int))
  simpa [putsI] using this
abbrev EnvL (l all : List Int) (since waited : Int) (inr : Bool) (n : Int) (k : Nat) : Env :=
  [(0, .d (.list 1 (rowsI l))), (1, .d (.int .i64 since)), (2, .d (.int .i64 waited)), (3, .d (.bool inr)), (9, .d (.bool true)), (10, .d (.int .i64 16)), (11, .d (.list 1 (rowsI all))), (13, .d (.int .i64 n)), (14, .d (.int .i64 (k : Int)))]
set_option maxRecDepth 100000 in
theorem foundLeast (l : List Int) (since0 waited0 : Int) (inr : Bool) : Contract Try.prog G0 7 [.d (.list 1 (rowsI l)), .d (.int .i64 since0), .d (.int .i64 waited0), .d (.bool inr)] [] (fun r t => r = .d (.bool true) ∧ t = []) := by
  have hlen := rowsI_len l
  refine run7 0 [] rfl rfl ?_
  conv => whnf
  refine .scal [] _ ⟨.refl _, rfl, first31⟩ ?_
  conv => whnf
  refine bcase_intro (fun h => ?_) (fun h => ?_) <;> conv => whnf
  · exact ⟨rfl, rfl⟩
  have hl : 0 < l.length ∧ l.length ≤ 16 := by
    rw [hlen] at h
    rcases Nat.eq_zero_or_pos l.length with h1 | h1
    · rw [h1] at h
      cases h
    · rw [show ((l.length : Int) == 0) = false by rw [beq_eq_false_iff_ne]; omega] at h
      have := of_decide_eq_false h
      omega
  obtain ⟨hl0, hl⟩ := hl
  clear h
  refine .scal [.d (.int .i64 since0), .d (.int .i64 ((200 : Nat) : Int))] _ ⟨.refl _, rfl, num24 since0 200 (by omega) (by omega)⟩ ?_
  generalize ((numB since0 200 : Nat) : Int) = since
  conv => whnf
  refine .scal [.d (.int .i64 waited0), .d (.int .i64 ((200 : Nat) : Int))] _ ⟨.refl _, rfl, num24 waited0 200 (by omega) (by omega)⟩ ?_
  generalize ((numB waited0 200 : Nat) : Int) = waited
  conv => whnf
  -- the numbers, as a set
  refine StopG.roundsM wk7 [] [0, 1, 2, 3, 9, 10, 11, 12] (fun m env s => ∃ i : Nat, i ≤ l.length ∧ m = l.length - i ∧
    env = [(0, .d (.list 1 (rowsI l))), (1, .d (.int .i64 since)), (2, .d (.int .i64 waited)), (3, .d (.bool inr)), (9, .d (.bool true)), (10, .d (.int .i64 16)), (11, .d (.list 1 (rowsI (putsI (l.take i))))), (12, .d (.int .i64 (i : Int)))] ∧ s = []) rfl ?_ ?_
  · refine ⟨_, _, GV.wk 11 1, ?_⟩
    conv => whnf
    exact ⟨_, 0, Nat.zero_le _, rfl, rfl, rfl⟩
  rintro m env s ⟨i, hi, rfl, rfl, rfl⟩
  conv => whnf
  refine bcase_intro (fun h => ?_) (fun h => ?_) <;> conv => whnf
  · have h := lt_of h
    rw [hlen] at h
    obtain ⟨x, hx, hdrop⟩ := at_i h
    refine ⟨rowI x, ⟨by omega, row_i hx⟩, ?_⟩
    conv => whnf
    refine .scal [.d (.int .i64 x), .d (.int .i64 ((16 : Nat) : Int))] _ ⟨.refl _, rfl, num24 x 16 (by omega) (by omega)⟩ ?_
    conv => whnf
    have h6 := putsI_len (l.take i)
    rw [List.length_take] at h6
    refine .data [.d (.list 1 (rowsI (putsI (l.take i)))), .d (.int .i64 ((numB x 16 : Nat) : Int))] _ ⟨WkL.refl _, rfl, put39 _ _ (by omega)⟩ ?_
    rw [← putsI_take hx]
    conv => whnf
    refine ⟨_, _, .refl, ?_⟩
    conv => whnf
    rw [succ_i h (by omega)]
    exact ⟨_, by omega, i + 1, h, rfl, rfl, rfl⟩
  · have h := ge_of h
    rw [hlen] at h
    rw [List.take_of_length_le h]
    have hainc := putsI_inc l
    have halen := putsI_len l
    have hane : 0 < (putsI l).length := by
      cases l with
      | nil => simp at hl0
      | cons x r => exact List.length_pos_of_mem (a := ((numB x 16 : Nat) : Int)) (((foldPut _ [] .nil).2.1 _).2 (.inr (by simp)))
    clear h
    generalize putsI l = all at hainc halen hane
    have hal := rowsI_len all
    -- each of them
    refine StopG.rounds wk7 [] [0, 1, 2, 3, 9, 10, 11, 13, 14] (fun m env s => ∃ k : Nat, k ≤ all.length ∧ m = all.length - k ∧
      env = EnvL l all since waited inr (if 0 < k then (if wantI since waited inr then 1 else 0) else 0) k ∧ s = []) rfl ?_ ?_
    · conv => whnf
      exact ⟨_, 0, Nat.zero_le _, rfl, rfl, rfl⟩
    rintro m env s ⟨k, hk, rfl, rfl, rfl⟩
    conv => whnf
    refine bcase_intro (fun h => ?_) (fun h => ?_) <;> conv => whnf
    · have h := lt_of h
      rw [hal] at h
      obtain ⟨x, hx, hdrop⟩ := at_i h
      have hkb : ∀ i, i ≤ all.length → (butN all k i).length ≤ 16 := fun i hi => by
        unfold butN butI
        rw [List.length_append, List.length_take, List.length_drop, List.length_take]
        omega
      have hb0 : butN all k 0 = [] := by simp [butN, butI]
      refine StopG.roundsS wk7 [] [0, 1, 2, 3, 9, 10, 11, 13, 14, 15, 16] (fun m env s => ∃ (i : Nat) (v : AV), i ≤ all.length ∧ m = all.length - i ∧
        ((butN all k i = [] ∧ v = .d .nil ∧ s = []) ∨ ∃ c, (butN all k i).length ≤ c ∧ v = .slc (.g 0) 1 0 (butN all k i).length c ∧ s = [(0, .row 1 (rowsI (butN all k i)))]) ∧
        env = EnvL l all since waited inr (if 0 < k then (if wantI since waited inr then 1 else 0) else 0) k ++ [(15, v), (16, .d (.int .i64 (i : Int)))]) rfl ?_ ?_
      · conv => whnf
        exact ⟨_, 0, _, Nat.zero_le _, rfl, .inl ⟨hb0, rfl, rfl⟩, rfl⟩
      rintro m env s ⟨i, v, hi, rfl, hv, rfl⟩
      rcases Nat.lt_or_ge i all.length with h2 | h2
      · obtain ⟨y, hy, hdrop2⟩ := at_i h2
        have hst := butN_step (k := k) hy
        have hkb2 := hkb i (by omega)
        have hdec : decide ((i : Int) < ((rowsI all).length : Int)) = true := decide_eq_true (by omega)
        refine .go wk7 [] ?_
        rcases hv with ⟨hv1, rfl, rfl⟩ | ⟨c, hc, rfl, rfl⟩
        · conv => whnf
          rw [hdec]
          conv => whnf
          rw [hv1] at hst
          refine bcase_intro (fun hik => ?_) (fun hik => ?_) <;> conv => whnf
          · have hik : (i : Int) ≠ (k : Int) := by simpa using hik
            have hik : i ≠ k := by omega
            rw [if_neg hik] at hst
            refine ⟨rowI y, ⟨by omega, row_i hy⟩, ?_⟩
            conv => whnf
            refine ⟨⟨show (2 * 1 + 1024) * 8 ≤ 281474976710656 by omega, show 1 ≤ 4611686018427387904 by omega⟩, ?_⟩
            conv => whnf
            intro c2 hc2
            conv => whnf
            rw [succ_i h2 (by omega)]
            exact ⟨_, by omega, i + 1, _, h2, rfl, .inr ⟨c2, by rw [hst]; exact hc2, by rw [hst]; rfl, by rw [hst]; rfl⟩, rfl⟩
          · have hik : (i : Int) = (k : Int) := by simpa using hik
            have hik : i = k := by omega
            rw [if_pos hik] at hst
            rw [succ_i h2 (by omega)]
            exact ⟨_, by omega, i + 1, _, h2, rfl, .inl ⟨by rw [hst], rfl, rfl⟩, rfl⟩
        · conv => whnf
          rw [hdec]
          conv => whnf
          refine bcase_intro (fun hik => ?_) (fun hik => ?_) <;> conv => whnf
          · have hik : (i : Int) ≠ (k : Int) := by simpa using hik
            have hik : i ≠ k := by omega
            rw [if_neg hik] at hst
            refine ⟨rowI y, ⟨by omega, row_i hy⟩, ?_⟩
            conv => whnf
            refine ⟨by rw [rowsI_len]; exact Nat.le_refl _, ⟨?_, ?_⟩, ?_⟩
            · show (2 * ((butN all k i).length + 1) + 1024) * 8 ≤ 281474976710656; omega
            · show (butN all k i).length + 1 ≤ _; omega
            conv => whnf
            intro c2 hc2
            conv => whnf
            rw [succ_i h2 (by omega)]
            refine ⟨_, by omega, i + 1, _, h2, rfl, .inr ⟨c2, by rw [hst]; simpa using hc2, by rw [hst]; simp, ?_⟩, rfl⟩
            rw [hst, List.take_of_length_le (by rw [rowsI_len]; exact Nat.le_refl _)]
            simp [rowsI, rowI]
          · have hik : (i : Int) = (k : Int) := by simpa using hik
            have hik : i = k := by omega
            rw [if_pos hik] at hst
            rw [succ_i h2 (by omega)]
            exact ⟨_, by omega, i + 1, _, h2, rfl, .inr ⟨c, by rw [hst]; exact hc, by rw [hst], by rw [hst]⟩, rfl⟩
      · have hil : i = all.length := by omega
        have hbt : butN all k i = butI all k := by rw [hil]; simp [butN]
        have hkb2 := hkb i (by omega)
        have hdec : decide ((i : Int) < ((rowsI all).length : Int)) = false := decide_eq_false (by omega)
        rw [hbt] at hv hkb2
        have hshould := should_at hainc hx since waited inr
        generalize butI all k = oth at hv hkb2 hshould
        have hol := rowsI_len oth
        refine .ghost (env' := EnvL l all since waited inr (if 0 < k then (if wantI since waited inr then 1 else 0) else 0) k ++ [(15, .d (.list 1 (rowsI oth))), (16, .d (.int .i64 (i : Int)))]) (s' := []) ?_ (.go wk7 [] ?_)
        · rcases hv with ⟨rfl, rfl, rfl⟩ | ⟨c, hc, rfl, rfl⟩
          · exact GV.wk 15 1
          · refine GV.trans (GV.freeze 0 rfl (by simp) (by repeat' first | exact trivial | apply And.intro | decide | (simp; done) | omega) (by repeat' first | exact trivial | apply And.intro)) (GV.tidied [0, 1, 2, 3, 9, 10, 11, 13, 14, 15, 16] ?_)
            conv => whnf
            rw [List.drop_zero, List.take_of_length_le (by omega)]
            exact ⟨rfl, rfl⟩
        conv => whnf
        rw [hdec]
        conv => whnf
        refine ⟨rowI x, ⟨by omega, row_i hx⟩, ?_⟩
        conv => whnf
        have hn2 : (if 0 < k then (if wantI since waited inr then (1 : Int) else 0) else 0) = 0 ∨ 0 < k := by
          rcases Nat.eq_zero_or_pos k with h0 | h0
          · exact .inl (by rw [if_neg (by omega)])
          · exact .inr h0
        have fin : ∀ (q : Bool), q = (bif k == 0 then wantI since waited inr else false) → (q = true → k = 0 ∧ wantI since waited inr = true) ∧ (q = false → k = 0 → wantI since waited inr = false) := by
          rintro q rfl
          cases k with
          | zero => exact ⟨fun h => ⟨rfl, h⟩, fun h _ => h⟩
          | succ k => exact ⟨(fun h => by cases h), (fun _ h => by cases h)⟩
        have fin := fin _ hshould
        refine bcase_intro (fun hin => ?_) (fun hin => ?_) <;> conv => whnf
        · subst hin
          refine .scal [cV x 16 false true oth all since waited] _ ⟨.a (.s _ (.s _ (.s _ (.s _ (.s _ (.s _ (.s _ (.s _ .nil)))))))) .nil, rfl, should32 x 16 false true oth all since waited (by omega) (by omega)⟩ ?_
          rw [if_pos rfl] at fin
          generalize shouldI x 16 false true oth all since waited = q at fin
          conv => whnf
          refine bcase_intro (fun hw => ?_) (fun hw => ?_)
          · obtain ⟨rfl, hw2⟩ := fin.1 hw
            conv => whnf
            exact ⟨_, by omega, 1, by omega, rfl, by rw [hw2]; rfl, rfl⟩
          · conv => whnf
            rw [succ_i h (by omega)]
            refine ⟨_, by omega, k + 1, by omega, rfl, ?_, rfl⟩
            cases k with
            | zero => rw [fin.2 hw rfl]; rfl
            | succ k => rfl
        · subst hin
          refine .scal [cV x 16 false false oth [] since waited] _ ⟨.a (.s _ (.s _ (.s _ (.s _ (.s _ (.n 1 (.s _ (.s _ .nil)))))))) .nil, rfl, should32 x 16 false false oth [] since waited (by omega) (by simp)⟩ ?_
          rw [if_neg (by simp)] at fin
          generalize shouldI x 16 false false oth [] since waited = q at fin
          conv => whnf
          refine bcase_intro (fun hw => ?_) (fun hw => ?_)
          · obtain ⟨rfl, hw2⟩ := fin.1 hw
            conv => whnf
            exact ⟨_, by omega, 1, by omega, rfl, by rw [hw2]; rfl, rfl⟩
          · conv => whnf
            rw [succ_i h (by omega)]
            refine ⟨_, by omega, k + 1, by omega, rfl, ?_, rfl⟩
            cases k with
            | zero => rw [fin.2 hw rfl]; rfl
            | succ k => rfl
    · have h := ge_of h
      rw [hal] at h
      have hk0 : 0 < k := by omega
      rw [if_pos hk0]
      refine .scal [.d (.int .i64 16)] _ ⟨.refl _, rfl, pat37 16⟩ ?_
      rw [pat16]
      conv => whnf
      refine .scal [.d (.int .i64 16)] _ (fun _ => ⟨.refl _, rfl, pat37 16⟩) ?_
      rw [pat16]
      conv => whnf
      refine ⟨rd_bool ?_, rfl⟩
      have hwd : wantI since waited inr = (bif decide (waited > 72) then (bif !inr then true else decide (since > 72)) else false) := rfl
      rw [← hwd]
      cases wantI since waited inr <;> rfl
end Go.Proofs.Ytkenimmellonjaa
/- Seat r2: who wants what: the walk. -/
namespace Go.Proofs.Ytkenimmellonjaa
open Go.Pv Go.RowKit Go.Shelf
set_option maxRecDepth 100000 in
theorem ledgerWants (cnt fdr hop : Int) (mem : List Int) (l : List En) (hl : l.length ≤ maxLen) (n : Int) : Contract Try.prog G0 14 [awG cnt fdr hop mem l, .d (.int .i64 n)] [] (fun r t => r = .d (.bool true) ∧ t = []) := by
  refine run14 0 [] rfl rfl ?_
  conv => whnf
  refine .scal [] _ ⟨.refl _, rfl, first47⟩ ?_
  conv => whnf
  refine .scal [awG cnt fdr hop mem l] _ ⟨.refl _, rfl, light cnt fdr hop mem l hl⟩ ?_
  conv => whnf
  refine bcase_intro (fun hli => ?_) (fun hli => ?_) <;> conv => whnf
  · exact ⟨rfl, rfl⟩
  have hli : lightB cnt fdr hop mem l = true := by simpa using hli
  have ok := light_ok hli
  have hlen := rowsE_len l
  have hmn := rowsI_len mem
  have hm := ok.ml
  have hl := ok.ll
  have hbb : ∀ e ∈ l, e.bids.length ≤ 100000 := fun e he => Nat.le_trans (ok.bl e he) (by decide)
  refine .scal [.d (.int .i64 n), .d (.int .i64 16)] _ ⟨.refl _, rfl, num24 n 16 (by decide) (by decide)⟩ ?_
  conv => whnf
  have hok := want_ok hli (numB n 16 : Int)
  generalize (numB n 16 : Int) = car at hok
  refine .data [awG cnt fdr hop mem l, .d (.int .i64 car)] _ ⟨.refl _, rfl, wants cnt fdr hop mem (by omega) l (by omega) hbb car⟩ ?_
  conv => whnf
  refine .scal [.d (.list 1 (rowsI mem)), .d (.int .i64 car)] _ ⟨.refl _, rfl, among mem (by omega) car⟩ ?_
  conv => whnf
  have hWl := want_len mem car l
  have hWr := rowsC_len (wantL mem car l)
  refine StopG.rounds wk14 [] [1, 2, 5, 6, 7, 8, 9] (fun m env s => ∃ i : Nat, i ≤ l.length ∧ m = l.length - i ∧ env = [(1, .d (.int .i64 car)), (2, .ref (.g 0) 0), (5, .d (.bool true)), (6, .d (.list 2 (rowsC (wantL mem car l)))), (7, .d (.bool (mem.any fun y => y == car))), (8, .d (.int .i64 (((wantL mem car (l.take i)).length : Nat) : Int))), (9, .d (.int .i64 (i : Int)))] ∧ s = [(0, celR cnt fdr hop mem l)]) rfl ?_ ?_
  · conv => whnf
    have h0 : wantL mem car ([] : List En) = [] := by rw [want_eq]; rfl
    exact ⟨_, 0, Nat.zero_le _, rfl, by rw [List.take_zero, h0]; rfl, rfl⟩
  rintro m env s ⟨i, hi, rfl, rfl, rfl⟩
  have hWi : (wantL mem car (l.take i)).length ≤ 30 := Nat.le_trans (want_len _ _ _) (by simp; omega)
  conv => whnf
  refine bcase_intro (fun h => ?_) (fun h => ?_) <;> conv => whnf
  · have hil := lt_of h
    rw [hlen] at hil
    obtain ⟨x, hx, _⟩ := at_i hil
    have hxb := ok.bl x (List.mem_of_getElem? hx)
    have hxr := rowsB_len x.bids
    refine StopG.rounds wk14 [] [1, 2, 5, 6, 7, 8, 9, 10, 11] (fun m env s => ∃ a : Nat, a ≤ x.bids.length ∧ m = x.bids.length - a ∧ env = [(1, .d (.int .i64 car)), (2, .ref (.g 0) 0), (5, .d (.bool true)), (6, .d (.list 2 (rowsC (wantL mem car l)))), (7, .d (.bool (mem.any fun y => y == car))), (8, .d (.int .i64 (((wantL mem car (l.take i)).length : Nat) : Int))), (9, .d (.int .i64 (i : Int))), (10, .d (.bool ((x.bids.take a).any fun b => b.1 == car))), (11, .d (.int .i64 (a : Int)))] ∧ s = [(0, celR cnt fdr hop mem l)]) rfl ?_ ?_
    · conv => whnf
      exact ⟨_, 0, Nat.zero_le _, rfl, rfl, rfl⟩
    rintro m env s ⟨a, ha, rfl, rfl, rfl⟩
    conv => whnf
    refine ⟨rowE x, ⟨by omega, row_i hx⟩, ?_⟩
    conv => whnf
    refine bcase_intro (fun h => ?_) (fun h => ?_) <;> conv => whnf
    · have hal := lt_of h
      rw [hxr] at hal
      obtain ⟨b, hbx, _⟩ := at_i hal
      refine ⟨rowE x, fun _ => ⟨by omega, row_i hx⟩, ?_⟩
      conv => whnf
      refine ⟨rowB b, fun _ => ⟨by omega, row_i hbx⟩, ?_⟩
      conv => whnf
      rw [succ_i hal (by omega)]
      refine ⟨_, by omega, a + 1, hal, rfl, ?_, rfl⟩
      rw [List.take_add_one, hbx, List.any_append]
      simp only [Option.toList, List.any_cons, List.any_nil, Bool.or_false]
      cases ((x.bids.take a).any fun b => b.1 == car) <;> rfl
    have hal := ge_of h
    rw [hxr] at hal
    rw [List.take_of_length_le hal]
    refine ⟨rowE x, fun _ => ⟨by omega, row_i hx⟩, ?_⟩
    conv => whnf
    refine bcase_intro (fun hg => ?_) (fun hg => ?_) <;> conv => whnf
    · have hon : onB mem car x = true := hg
      rw [succ_i hil (by omega)]
      exact ⟨_, by omega, i + 1, hil, rfl, by rw [want_skip hx hon], rfl⟩
    have hon : onB mem car x = false := hg
    have hat := want_at hx hon
    have hlt := (List.getElem?_eq_some_iff.1 hat).1
    refine ⟨rowC (callE x), fun _ => ⟨by omega, row_i hat⟩, ?_⟩
    conv => whnf
    refine ⟨rowE x, fun _ => ⟨by omega, row_i hx⟩, ?_⟩
    conv => whnf
    refine .scal [calV x.fl x.dr, calV x.fl x.dr] _ (fun _ => ⟨.refl _, rfl, sameCall _ _ _ _⟩) ?_
    conv => whnf
    refine bcase_intro (fun hq => ?_) (fun hq => ?_) <;> conv => whnf
    · rw [hWr, show decide (((wantL mem car (l.take i)).length : Int) ≥ ((wantL mem car l).length : Int)) = false from decide_eq_false (by omega)] at hq
      simp at hq
    rw [succ_i hil (by omega), succ_i (i := (wantL mem car (l.take i)).length) (Nat.lt_succ_self _) (by omega)]
    exact ⟨_, by omega, i + 1, hil, rfl, by rw [want_more hx hon, List.length_append]; rfl, rfl⟩
  have hil := ge_of h
  rw [hlen] at hil
  rw [List.take_of_length_le hil, hWr, show (((wantL mem car l).length : Int) != ((wantL mem car l).length : Int)) = false by simp]
  conv => whnf
  generalize hW : wantL mem car l = W at hok hWl hWr
  refine StopG.rounds wk14 [] [1, 2, 5, 6, 12, 13] (fun m env s => ∃ k : Nat, k ≤ W.length ∧ m = W.length - k ∧ env = [(1, .d (.int .i64 car)), (2, .ref (.g 0) 0), (5, .d (.bool true)), (6, .d (.list 2 (rowsC W))), (12, .ref (.g 1) 0), (13, .d (.int .i64 (k : Int)))] ∧ s = [(0, celR cnt fdr hop mem l), (1, celR cnt fdr hop mem (bidsL mem car W l k))]) rfl ?_ ?_
  · conv => whnf
    exact ⟨_, 0, Nat.zero_le _, rfl, rfl, rfl⟩
  rintro m env s ⟨k, hk, rfl, rfl, rfl⟩
  have hsl : (bidsL mem car W l k).length = l.length := by have := (hok.sane k (by rw [hW]; exact hk)).1; rwa [hW] at this
  have hsb : ∀ e ∈ bidsL mem car W l k, e.bids.length ≤ 16 + k := by have := (hok.sane k (by rw [hW]; exact hk)).2; rwa [hW] at this
  conv => whnf
  refine bcase_intro (fun h => ?_) (fun h => ?_) <;> conv => whnf
  · have hkl := lt_of h
    rw [hWr] at hkl
    obtain ⟨c, hc, _⟩ := at_i hkl
    refine ⟨rowC c, ⟨by omega, row_i hc⟩, ?_⟩
    conv => whnf
    refine .data [awG cnt fdr hop mem (bidsL mem car W l k), bidv (car, (k : Int)), calV c.1 c.2] _ ⟨WkL.refl _, rfl, bid cnt fdr hop mem (by omega) _ (by omega) (fun e he => Nat.le_trans (hsb e he) (by omega)) (car, (k : Int)) c⟩ ?_
    conv => whnf
    have hst := hok.step k c (by rw [hW]; exact hc)
    rw [hW] at hst
    have hnx : bidsL mem car W l (k + 1) = (bidL mem (car, (k : Int)) c (bidsL mem car W l k)).1 := by
      show (match W[k]? with | some c => _ | none => _) = _
      rw [hc]
    have hsan := hok.sane (k + 1) (by rw [hW]; exact hkl)
    rw [hW] at hsan
    rw [hnx] at hst hsan
    refine .data [awG cnt fdr hop mem (bidL mem (car, (k : Int)) c (bidsL mem car W l k)).1, .d (.int .i64 car)] _ (fun _ => ⟨WkL.refl _, rfl, wants cnt fdr hop mem (by omega) _ (by omega) (fun e he => Nat.le_trans (hsan.2 e he) (by omega)) car⟩) ?_
    conv => whnf
    refine bcase_intro (fun hg => ?_) (fun hg => ?_) <;> conv => whnf
    · rw [hst.1, rowsC_len, hst.2, hWr, wrap_id (n := (W.length : Int) - (k : Int)) (by omega) (by omega), wrap_id (n := (W.length : Int) - (k : Int) - 1) (by omega) (by omega), show ((W.length - k - 1 : Nat) : Int) = (W.length : Int) - (k : Int) - 1 by omega] at hg
      simp at hg
    · rw [succ_i hkl (by omega), ← hnx]
      exact ⟨_, by omega, k + 1, hkl, rfl, rfl, rfl⟩
  · refine ⟨?_, rfl⟩
    rw [rowsE_len, hsl, hlen]
    simp
end Go.Proofs.Ytkenimmellonjaa
/- Seat r2: what is lit no more is gone: the walk. -/
namespace Go.Proofs.Ytkenimmellonjaa
open Go.Pv Go.RowKit Go.Shelf
theorem litP_snoc {cut i : Nat} {l : List En} {x : En} (hx : l[i]? = some x) : litP cut 0 (l.take (i + 1)) = if i = cut then litP cut 0 (l.take i) else litP cut 0 (l.take i) ++ [keyE x] := by
  have hil := (List.getElem?_eq_some_iff.1 hx).1
  rw [List.take_add_one, hx, litP_app, List.length_take, Nat.min_eq_left (by omega), Nat.zero_add]
  show _ ++ (if i = cut then [] else [keyE x]) = _
  split
  · rw [List.append_nil]
  · rfl
theorem anewP_snoc {cut i : Nat} {l : List En} {x : En} (hx : l[i]? = some x) : anewP cut 0 (l.take (i + 1)) = anewP cut 0 (l.take i) ++ [if i = cut then (x.fl, x.dr, x.gn + 1) else keyE x] := by
  have hil := (List.getElem?_eq_some_iff.1 hx).1
  rw [List.take_add_one, hx, anewP_app, List.length_take, Nat.min_eq_left (by omega), Nat.zero_add]
  rfl
theorem light_srt {cnt fdr hop : Int} {mem : List Int} {l : List En} (h : lightB cnt fdr hop mem l = true) : SrtE l ∧ ∀ e ∈ l, badE mem e = false := by
  unfold lightB at h
  cases hf : l.any fat with
  | true => rw [hf] at h; cases h
  | false =>
  rw [hf] at h
  have h : (bif bif decide ((mem.length : Int) ≤ 16) then decide ((l.length : Int) ≤ 30) else false then vRing cnt fdr hop mem l == 0 else false) = true := h
  cases h1 : (bif decide ((mem.length : Int) ≤ 16) then decide ((l.length : Int) ≤ 30) else false) with
  | false => rw [h1] at h; cases h
  | true =>
  rw [h1] at h
  have h : (vRing cnt fdr hop mem l == 0) = true := h
  have h : vRing cnt fdr hop mem l = 0 := by simpa using h
  obtain ⟨_, h⟩ := cond0 (by decide) h
  obtain ⟨_, h⟩ := cond0 (by decide) h
  obtain ⟨_, h⟩ := cond0 (by decide) h
  obtain ⟨_, h⟩ := cond0 (by decide) h
  obtain ⟨hb, _, hpw⟩ := vEnts_ok l none h
  exact ⟨hpw, fun e he => (hb e he).1⟩
theorem bad_gn {mem : List Int} {e : En} (h : badE mem e = false) : 1 ≤ e.gn ∧ e.gn ≤ 2147483647 := by
  unfold badE at h
  obtain ⟨h, _⟩ := bor0 h
  obtain ⟨h, h1⟩ := bor0 h
  obtain ⟨_, h2⟩ := bor0 h
  have h1 := of_decide_eq_false h1
  have h2 := of_decide_eq_false h2
  omega
/-- Where a round of listing latches begins. -/
def listI (cnt fdr hop : Int) (mem : List Int) (l : List En) (cut : Nat) (m : Nat) (env : Env) (s : List (Nat × AB)) : Prop :=
  ∃ (i : Nat) (v6 v7 : AV) (p q : List Kt), i ≤ l.length ∧ m = l.length - i ∧ p = litP cut 0 (l.take i) ∧ q = anewP cut 0 (l.take i) ∧
    env = [(1, .d (.int .i64 (cut : Int))), (2, .ref (.g 0) 0), (5, .d (.bool true)), (6, v6), (7, v7), (8, .d (.int .i64 (i : Int)))] ∧
    ((p = [] ∧ q = [] ∧ v6 = .d .nil ∧ v7 = .d .nil ∧ s = [(0, celR cnt fdr hop mem l)]) ∨
      (∃ c7, p = [] ∧ q.length ≤ c7 ∧ v6 = .d .nil ∧ v7 = .slc (.g 1) 3 0 q.length c7 ∧ s = [(0, celR cnt fdr hop mem l), (1, .row 3 (rowsK q))]) ∨
      ∃ c6 c7, p.length ≤ c6 ∧ q.length ≤ c7 ∧ v6 = .slc (.g 1) 3 0 p.length c6 ∧ v7 = .slc (.g 2) 3 0 q.length c7 ∧ s = [(0, celR cnt fdr hop mem l), (1, .row 3 (rowsK p)), (2, .row 3 (rowsK q))])
set_option maxHeartbeats 4000000 in
set_option maxRecDepth 100000 in
theorem ledgerPurges (cnt fdr hop : Int) (mem : List Int) (l : List En) (hl : l.length ≤ maxLen) (n : Int) : Contract Try.prog G0 15 [awG cnt fdr hop mem l, .d (.int .i64 n)] [] (fun r t => r = .d (.bool true) ∧ t = []) := by
  have hlen := rowsE_len l
  refine run15 0 [] rfl rfl ?_
  conv => whnf
  refine .scal [] _ ⟨.refl _, rfl, first47⟩ ?_
  conv => whnf
  refine .scal [awG cnt fdr hop mem l] _ ⟨.refl _, rfl, light cnt fdr hop mem l hl⟩ ?_
  conv => whnf
  refine bcase_intro (fun hli => ?_) (fun hli => ?_) <;> conv => whnf
  · exact ⟨rfl, rfl⟩
  have hli2 : (bif !lightB cnt fdr hop mem l then true else ((rowsE l).length : Int) == 0) = false := hli
  obtain ⟨hli, hne⟩ := bor0 hli2
  have hli : lightB cnt fdr hop mem l = true := by simpa using hli
  have hne : 0 < l.length := by
    rw [hlen] at hne
    have : (l.length : Int) ≠ 0 := by simpa using hne
    omega
  clear hli2
  have ok := light_ok hli
  obtain ⟨hsrt, hbad⟩ := light_srt hli
  have hl := ok.ll
  have hm := ok.ml
  have hbb : ∀ e ∈ l, e.bids.length ≤ 100000 := fun e he => Nat.le_trans (ok.bl e he) (by decide)
  have hnum := num24 n l.length hne (by omega)
  rw [← hlen] at hnum
  refine .scal [.d (.int .i64 n), .d (.int .i64 ((rowsE l).length : Int))] _ ⟨.refl _, rfl, hnum⟩ ?_
  rw [hlen]
  have hcl := numB_lt n (m := l.length) hne
  generalize numB n l.length = cut at hcl
  conv => whnf
  obtain ⟨x0, hx0, hd0⟩ := at_i hcl
  refine StopG.roundsS wk15 [] [1, 2, 5, 6, 7, 8] (listI cnt fdr hop mem l cut) rfl ?_ ?_
  · conv => whnf
    exact ⟨_, 0, _, _, [], [], Nat.zero_le _, rfl, rfl, rfl, rfl, .inl ⟨rfl, rfl, rfl, rfl, rfl⟩⟩
  rintro m env s ⟨i, v6, v7, p, q, hi, rfl, hp, hq, rfl, hs⟩
  rcases Nat.lt_or_ge i l.length with hil | hil
  · obtain ⟨x, hx, _⟩ := at_i hil
    have hdec : decide ((i : Int) < ((rowsE l).length : Int)) = true := decide_eq_true (by omega)
    have hpn := litP_snoc (cut := cut) hx
    have hqn := anewP_snoc (cut := cut) hx
    rw [← hp] at hpn
    rw [← hq] at hqn
    have hpl : p.length ≤ 30 := by
      rw [hp]
      refine Nat.le_trans (litP_len _ _ _) ?_
      rw [List.length_take]; omega
    have hql : q.length ≤ 30 := by
      rw [hq, anewP_len, List.length_take]; omega
    have hrp := rowsK_len p
    have hrq := rowsK_len q
    have hgx := bad_gn (hbad x (List.mem_of_getElem? hx))
    refine .go wk15 [] ?_
    rcases hs with ⟨hp0, hq0, rfl, rfl, rfl⟩ | ⟨c7, hp0, hc7, rfl, rfl, rfl⟩ | ⟨c6, c7, hc6, hc7, rfl, rfl, rfl⟩
    · conv => whnf
      rw [hdec]
      conv => whnf
      refine ⟨rowE x, ⟨by omega, row_i hx⟩, ?_⟩
      conv => whnf
      refine bcase_intro (fun hic => ?_) (fun hic => ?_) <;> conv => whnf
      · have hic : i ≠ cut := by
          have : (i : Int) ≠ (cut : Int) := by simpa using hic
          omega
        rw [if_neg hic] at hpn hqn
        refine ⟨⟨show (2 * 1 + 1024) * 24 ≤ 281474976710656 by omega, show 1 ≤ 4611686018427387904 by omega⟩, ?_⟩
        conv => whnf
        intro d6 hd6
        conv => whnf
        refine ⟨⟨show (2 * 1 + 1024) * 24 ≤ 281474976710656 by omega, show 1 ≤ 4611686018427387904 by omega⟩, ?_⟩
        conv => whnf
        intro d7 hd7
        conv => whnf
        rw [succ_i hil (by omega)]
        refine ⟨_, by omega, i + 1, _, _, p ++ [keyE x], q ++ [keyE x], hil, rfl, hpn.symm, hqn.symm, rfl, .inr (.inr ⟨d6, d7, ?_, ?_, ?_, ?_, ?_⟩)⟩
        · rw [hp0]; exact hd6
        · rw [hq0]; exact hd7
        · rw [hp0]; rfl
        · rw [hq0]; rfl
        · rw [hp0, hq0]; rfl
      · have hic : i = cut := by
          have : (i : Int) = (cut : Int) := by simpa using hic
          omega
        rw [if_pos hic] at hpn hqn
        refine bcase_intro (fun hg => ?_) (fun hg => ?_) <;> conv => whnf
        · exact ⟨rfl, rfl⟩
        rw [wrap_id (n := x.gn + 1) (by omega) (by omega)]
        refine ⟨⟨show (2 * 1 + 1024) * 24 ≤ 281474976710656 by omega, show 1 ≤ 4611686018427387904 by omega⟩, ?_⟩
        conv => whnf
        intro d7 hd7
        conv => whnf
        rw [succ_i hil (by omega)]
        refine ⟨_, by omega, i + 1, _, _, p, q ++ [(x.fl, x.dr, x.gn + 1)], hil, rfl, hpn.symm, hqn.symm, rfl, .inr (.inl ⟨d7, hp0, ?_, rfl, ?_, ?_⟩)⟩
        · rw [hq0]; exact hd7
        · rw [hq0]; rfl
        · rw [hq0]; rfl
    · conv => whnf
      rw [hdec]
      conv => whnf
      refine ⟨rowE x, ⟨by omega, row_i hx⟩, ?_⟩
      conv => whnf
      refine bcase_intro (fun hic => ?_) (fun hic => ?_) <;> conv => whnf
      · have hic : i ≠ cut := by
          have : (i : Int) ≠ (cut : Int) := by simpa using hic
          omega
        rw [if_neg hic] at hpn hqn
        refine ⟨⟨show (2 * 1 + 1024) * 24 ≤ 281474976710656 by omega, show 1 ≤ 4611686018427387904 by omega⟩, ?_⟩
        conv => whnf
        intro d6 hd6
        conv => whnf
        refine ⟨by omega, ⟨?_, ?_⟩, ?_⟩
        · show (2 * (q.length + 1) + 1024) * 24 ≤ 281474976710656; omega
        · show q.length + 1 ≤ _; omega
        conv => whnf
        intro d7 hd7
        conv => whnf
        rw [succ_i hil (by omega)]
        refine ⟨_, by omega, i + 1, _, _, p ++ [keyE x], q ++ [keyE x], hil, rfl, hpn.symm, hqn.symm, rfl, .inr (.inr ⟨d6, d7, ?_, ?_, ?_, ?_, ?_⟩)⟩
        · rw [hp0]; exact hd6
        · rw [List.length_append]; exact hd7
        · rw [hp0]; rfl
        · rw [List.length_append]; rfl
        · rw [hp0, List.take_of_length_le (by omega), show rowsK (q ++ [keyE x]) = rowsK q ++ [rowK (keyE x)] by simp [rowsK]]; rfl
      · have hic : i = cut := by
          have : (i : Int) = (cut : Int) := by simpa using hic
          omega
        rw [if_pos hic] at hpn hqn
        refine bcase_intro (fun hg => ?_) (fun hg => ?_) <;> conv => whnf
        · exact ⟨rfl, rfl⟩
        rw [wrap_id (n := x.gn + 1) (by omega) (by omega)]
        refine ⟨by omega, ⟨?_, ?_⟩, ?_⟩
        · show (2 * (q.length + 1) + 1024) * 24 ≤ 281474976710656; omega
        · show q.length + 1 ≤ _; omega
        conv => whnf
        intro d7 hd7
        conv => whnf
        rw [succ_i hil (by omega)]
        refine ⟨_, by omega, i + 1, _, _, p, q ++ [(x.fl, x.dr, x.gn + 1)], hil, rfl, hpn.symm, hqn.symm, rfl, .inr (.inl ⟨d7, hp0, ?_, rfl, ?_, ?_⟩)⟩
        · rw [List.length_append]; exact hd7
        · rw [List.length_append]; rfl
        · rw [List.take_of_length_le (by omega), show rowsK (q ++ [(x.fl, x.dr, x.gn + 1)]) = rowsK q ++ [rowK (x.fl, x.dr, x.gn + 1)] by simp [rowsK]]; rfl
    · conv => whnf
      rw [hdec]
      conv => whnf
      refine ⟨rowE x, ⟨by omega, row_i hx⟩, ?_⟩
      conv => whnf
      refine bcase_intro (fun hic => ?_) (fun hic => ?_) <;> conv => whnf
      · have hic : i ≠ cut := by
          have : (i : Int) ≠ (cut : Int) := by simpa using hic
          omega
        rw [if_neg hic] at hpn hqn
        refine ⟨by omega, ⟨?_, ?_⟩, ?_⟩
        · show (2 * (p.length + 1) + 1024) * 24 ≤ 281474976710656; omega
        · show p.length + 1 ≤ _; omega
        conv => whnf
        intro d6 hd6
        conv => whnf
        refine ⟨by omega, ⟨?_, ?_⟩, ?_⟩
        · show (2 * (q.length + 1) + 1024) * 24 ≤ 281474976710656; omega
        · show q.length + 1 ≤ _; omega
        conv => whnf
        intro d7 hd7
        conv => whnf
        rw [succ_i hil (by omega)]
        refine ⟨_, by omega, i + 1, _, _, p ++ [keyE x], q ++ [keyE x], hil, rfl, hpn.symm, hqn.symm, rfl, .inr (.inr ⟨d6, d7, ?_, ?_, ?_, ?_, ?_⟩)⟩
        · rw [List.length_append]; exact hd6
        · rw [List.length_append]; exact hd7
        · rw [List.length_append]; rfl
        · rw [List.length_append]; rfl
        · rw [List.take_of_length_le (by omega), List.take_of_length_le (by omega), show rowsK (p ++ [keyE x]) = rowsK p ++ [rowK (keyE x)] by simp [rowsK], show rowsK (q ++ [keyE x]) = rowsK q ++ [rowK (keyE x)] by simp [rowsK]]; rfl
      · have hic : i = cut := by
          have : (i : Int) = (cut : Int) := by simpa using hic
          omega
        rw [if_pos hic] at hpn hqn
        refine bcase_intro (fun hg => ?_) (fun hg => ?_) <;> conv => whnf
        · exact ⟨rfl, rfl⟩
        rw [wrap_id (n := x.gn + 1) (by omega) (by omega)]
        refine ⟨by omega, ⟨?_, ?_⟩, ?_⟩
        · show (2 * (q.length + 1) + 1024) * 24 ≤ 281474976710656; omega
        · show q.length + 1 ≤ _; omega
        conv => whnf
        intro d7 hd7
        conv => whnf
        rw [succ_i hil (by omega)]
        refine ⟨_, by omega, i + 1, _, _, p, q ++ [(x.fl, x.dr, x.gn + 1)], hil, rfl, hpn.symm, hqn.symm, rfl, .inr (.inr ⟨c6, d7, hc6, ?_, rfl, ?_, ?_⟩)⟩
        · rw [List.length_append]; exact hd7
        · rw [List.length_append]; rfl
        · rw [List.take_of_length_le (by omega), show rowsK (q ++ [(x.fl, x.dr, x.gn + 1)]) = rowsK q ++ [rowK (x.fl, x.dr, x.gn + 1)] by simp [rowsK]]; rfl
  have hi2 : i = l.length := by omega
  subst hi2
  have hdec : decide ((l.length : Int) < ((rowsE l).length : Int)) = false := decide_eq_false (by omega)
  rw [List.take_length] at hp hq
  have hpl : p.length ≤ 30 := by rw [hp]; exact Nat.le_trans (litP_len _ _ _) (by omega)
  have hql : q.length = l.length := by rw [hq, anewP_len]
  have hrp := rowsK_len p
  have hrq := rowsK_len q
  have hsp : l = l.take cut ++ x0 :: l.drop (cut + 1) := by
    conv => lhs; rw [← List.take_append_drop cut l, hd0]
  have hlA : (l.take cut).length = cut := by rw [List.length_take]; omega
  generalize hA : l.take cut = A at hsp hlA
  generalize hB : l.drop (cut + 1) = B at hsp
  clear hA hB hd0
  obtain ⟨pk1, pk2, pk3⟩ := purge_ok (A := A) (B := B) (x := x0) (by rw [← hsp]; exact hsrt) (by rw [← hsp]; exact hl)
  rw [← hsp, hlA, ← hp] at pk1
  rw [← hsp, hlA, ← hq] at pk2 pk3
  have hcp := purge cnt fdr hop mem (by omega) l (by omega) hbb p (by omega)
  have hcq := purge cnt fdr hop mem (by omega) l (by omega) hbb q (by omega)
  have hABm : ∀ e ∈ A ++ B, e ∈ l := fun e he => by
    rw [hsp]
    rcases List.mem_append.1 he with h | h
    · exact List.mem_append_left _ h
    · exact List.mem_append_right _ (List.mem_cons_of_mem _ h)
  have hll : l.length = A.length + (B.length + 1) := by
    conv => lhs; rw [hsp]
    simp
  have hca := add cnt fdr hop mem (by omega) (A ++ B) (by rw [List.length_append]; omega) (fun e he => hbb e (hABm e he)) q (by omega)
  rw [pk1] at hcp
  rw [pk2] at hcq
  rw [pk3] at hca
  rcases hs with ⟨hp0, hq0, rfl, rfl, rfl⟩ | ⟨c7, hp0, hc7, rfl, rfl, rfl⟩ | ⟨c6, c7, hc6, hc7, rfl, rfl, rfl⟩
  · rw [hq0] at hql; exact absurd hql (by simp; omega)
  · subst hp0
    refine .ghost (GV.freeze 1 rfl (by simp) (by repeat' first | exact trivial | apply And.intro | decide | (simp; done) | omega) (by repeat' first | exact trivial | apply And.intro)) (.go wk15 [] ?_)
    conv => whnf
    rw [hdec]
    conv => whnf
    rw [List.drop_zero, List.take_of_length_le (by omega)]
    refine .data [awG cnt fdr hop mem l, .d (.list 3 (rowsK []))] _ ⟨.s _ (.n 3 .nil), rfl, hcp⟩ ?_
    conv => whnf
    refine .data [awG cnt fdr hop mem l, .d (.list 3 (rowsK q))] _ ⟨.refl _, rfl, hcq⟩ ?_
    conv => whnf
    refine .data [awG cnt fdr hop mem (A ++ B), .d (.list 3 (rowsK q))] _ ⟨.refl _, rfl, hca⟩ ?_
    conv => whnf
    rw [hlen, dec_i (a := l.length) (c := l.length - 1) (by omega) (by omega)]
    have hlp : (A ++ B).length = l.length - 1 := by rw [List.length_append]; omega
    have hlq : (A ++ newE (x0.fl, x0.dr, x0.gn + 1) :: B).length = l.length := by rw [List.length_append, List.length_cons]; omega
    have hrP := rowsE_len (A ++ B)
    have hrQ := rowsE_len (A ++ newE (x0.fl, x0.dr, x0.gn + 1) :: B)
    rw [hlp] at hrP
    rw [hlq] at hrQ
    rw [hrP, hrQ, show (((l.length - 1 : Nat) : Int) != ((l.length - 1 : Nat) : Int)) = false by simp, show ((l.length : Int) != (l.length : Int)) = false by simp]
    conv => whnf
    refine StopG.rounds wk15 [] [1, 2, 5, 10, 11, 12] (fun m env s => ∃ i : Nat, i ≤ l.length ∧ m = l.length - i ∧ env = [(1, .d (.int .i64 (cut : Int))), (2, .ref (.g 0) 0), (5, .d (.bool true)), (10, .ref (.g 1) 0), (11, .ref (.g 2) 0), (12, .d (.int .i64 (i : Int)))] ∧ s = [(0, celR cnt fdr hop mem l), (1, celR cnt fdr hop mem (A ++ B)), (2, celR cnt fdr hop mem (A ++ newE (x0.fl, x0.dr, x0.gn + 1) :: B))]) rfl ?_ ?_
    · conv => whnf
      exact ⟨_, 0, Nat.zero_le _, rfl, rfl, rfl⟩
    rintro m env s ⟨i, hi, rfl, rfl, rfl⟩
    conv => whnf
    refine bcase_intro (fun h => ?_) (fun h => ?_) <;> conv => whnf
    · have hil := lt_of h
      rw [hlen] at hil
      obtain ⟨x, hx, _⟩ := at_i hil
      have hxb := hbb x (List.mem_of_getElem? hx)
      refine bcase_intro (fun hic => ?_) (fun hic => ?_) <;> conv => whnf
      · have hic : i = cut := by
          have : (i : Int) = (cut : Int) := by simpa using hic
          omega
        subst hic
        rw [hx0] at hx
        cases hx
        have hQ : (A ++ newE (x0.fl, x0.dr, x0.gn + 1) :: B)[i]? = some (newE (x0.fl, x0.dr, x0.gn + 1)) := by
          rw [List.getElem?_append_right (by omega), hlA, Nat.sub_self]; rfl
        have hgx := bad_gn (hbad x0 (List.mem_of_getElem? hx0))
        refine ⟨rowE (newE (x0.fl, x0.dr, x0.gn + 1)), ⟨by omega, row_i hQ⟩, ?_⟩
        conv => whnf
        refine ⟨rowE (newE (x0.fl, x0.dr, x0.gn + 1)), (fun _ => ⟨by omega, row_i hQ⟩), ?_⟩
        conv => whnf
        refine ⟨rowE (newE (x0.fl, x0.dr, x0.gn + 1)), (fun _ => ⟨by omega, row_i hQ⟩), ?_⟩
        conv => whnf
        refine ⟨rowE x0, (fun _ => ⟨by omega, row_i hx0⟩), ?_⟩
        conv => whnf
        rw [wrap_id (n := x0.gn + 1) (by omega) (by omega), show ((newE (x0.fl, x0.dr, x0.gn + 1)).gn != x0.gn + 1) = false by simp [newE]]
        conv => whnf
        rw [succ_i hil (by omega)]
        exact ⟨_, by omega, i + 1, hil, rfl, rfl, rfl⟩
      · have hic : i ≠ cut := by
          have : (i : Int) ≠ (cut : Int) := by simpa using hic
          omega
        have hQ : (A ++ newE (x0.fl, x0.dr, x0.gn + 1) :: B)[i]? = some x := by
          rw [← hx, hsp]
          rcases Nat.lt_or_ge i A.length with h1 | h1
          · rw [List.getElem?_append_left h1, List.getElem?_append_left h1]
          · rw [List.getElem?_append_right h1, List.getElem?_append_right h1]
            obtain ⟨k, hk⟩ : ∃ k, i - A.length = k + 1 := ⟨i - A.length - 1, by omega⟩
            rw [hk]; rfl
        refine bcase_intro (fun hgt => ?_) (fun hgt => ?_) <;> conv => whnf
        · have hgt : cut < i := by have := of_decide_eq_true hgt; omega
          have hP : (A ++ B)[i - 1]? = some x := by
            rw [← hx, hsp, List.getElem?_append_right (by omega), List.getElem?_append_right (by omega)]
            obtain ⟨k, hk⟩ : ∃ k, i - A.length = k + 1 := ⟨i - A.length - 1, by omega⟩
            rw [hk, show i - 1 - A.length = k by omega]; rfl
          rw [dec_i (a := i) (c := i - 1) (by omega) (by omega)]
          refine ⟨rowE x, ⟨by omega, row_i hP⟩, ?_⟩
          conv => whnf
          refine ⟨rowE x, ⟨by omega, row_i hx⟩, ?_⟩
          conv => whnf
          refine .scal [entV x, entV x] _ ⟨.refl _, rfl, sameEntry x x (by omega)⟩ ?_
          conv => whnf
          refine ⟨rowE x, (fun _ => ⟨by omega, row_i hQ⟩), ?_⟩
          conv => whnf
          refine ⟨rowE x, (fun _ => ⟨by omega, row_i hx⟩), ?_⟩
          conv => whnf
          refine .scal [entV x, entV x] _ (fun _ => ⟨.refl _, rfl, sameEntry x x (by omega)⟩) ?_
          conv => whnf
          rw [sameE_refl]
          conv => whnf
          rw [succ_i hil (by omega)]
          exact ⟨_, by omega, i + 1, hil, rfl, rfl, rfl⟩
        · have hgt : i < cut := by have := of_decide_eq_false hgt; omega
          have hP : (A ++ B)[i]? = some x := by
            rw [← hx, hsp, List.getElem?_append_left (by omega), List.getElem?_append_left (by omega)]
          refine ⟨rowE x, ⟨by omega, row_i hP⟩, ?_⟩
          conv => whnf
          refine ⟨rowE x, ⟨by omega, row_i hx⟩, ?_⟩
          conv => whnf
          refine .scal [entV x, entV x] _ ⟨.refl _, rfl, sameEntry x x (by omega)⟩ ?_
          conv => whnf
          refine ⟨rowE x, (fun _ => ⟨by omega, row_i hQ⟩), ?_⟩
          conv => whnf
          refine ⟨rowE x, (fun _ => ⟨by omega, row_i hx⟩), ?_⟩
          conv => whnf
          refine .scal [entV x, entV x] _ (fun _ => ⟨.refl _, rfl, sameEntry x x (by omega)⟩) ?_
          conv => whnf
          rw [sameE_refl]
          conv => whnf
          rw [succ_i hil (by omega)]
          exact ⟨_, by omega, i + 1, hil, rfl, rfl, rfl⟩
    · refine .scal [.d (.list 1 (rowsI mem)), .d (.list 1 (rowsI mem))] _ (fun _ => ⟨.refl _, rfl, sameInts34 mem mem (by omega)⟩) ?_
      conv => whnf
      exact ⟨rd_bool (by simp), rfl⟩
  · refine .ghost (GV.freeze 1 rfl (by simp) (by repeat' first | exact trivial | apply And.intro | decide | (simp; done) | omega) (by repeat' first | exact trivial | apply And.intro)) (.ghost (GV.freeze 2 rfl (by simp [fzB]) (by repeat' first | exact trivial | apply And.intro | decide | (simp; done) | omega) (by repeat' first | exact trivial | apply And.intro)) (.go wk15 [] ?_))
    conv => whnf
    rw [hdec]
    conv => whnf
    rw [List.drop_zero, List.take_of_length_le (by omega), List.drop_zero, List.take_of_length_le (by omega)]
    refine .data [awG cnt fdr hop mem l, .d (.list 3 (rowsK p))] _ ⟨.refl _, rfl, hcp⟩ ?_
    conv => whnf
    refine .data [awG cnt fdr hop mem l, .d (.list 3 (rowsK q))] _ ⟨.refl _, rfl, hcq⟩ ?_
    conv => whnf
    refine .data [awG cnt fdr hop mem (A ++ B), .d (.list 3 (rowsK q))] _ ⟨.refl _, rfl, hca⟩ ?_
    conv => whnf
    rw [hlen, dec_i (a := l.length) (c := l.length - 1) (by omega) (by omega)]
    have hlp : (A ++ B).length = l.length - 1 := by rw [List.length_append]; omega
    have hlq : (A ++ newE (x0.fl, x0.dr, x0.gn + 1) :: B).length = l.length := by rw [List.length_append, List.length_cons]; omega
    have hrP := rowsE_len (A ++ B)
    have hrQ := rowsE_len (A ++ newE (x0.fl, x0.dr, x0.gn + 1) :: B)
    rw [hlp] at hrP
    rw [hlq] at hrQ
    rw [hrP, hrQ, show (((l.length - 1 : Nat) : Int) != ((l.length - 1 : Nat) : Int)) = false by simp, show ((l.length : Int) != (l.length : Int)) = false by simp]
    conv => whnf
    refine StopG.rounds wk15 [] [1, 2, 5, 10, 11, 12] (fun m env s => ∃ i : Nat, i ≤ l.length ∧ m = l.length - i ∧ env = [(1, .d (.int .i64 (cut : Int))), (2, .ref (.g 0) 0), (5, .d (.bool true)), (10, .ref (.g 1) 0), (11, .ref (.g 2) 0), (12, .d (.int .i64 (i : Int)))] ∧ s = [(0, celR cnt fdr hop mem l), (1, celR cnt fdr hop mem (A ++ B)), (2, celR cnt fdr hop mem (A ++ newE (x0.fl, x0.dr, x0.gn + 1) :: B))]) rfl ?_ ?_
    · conv => whnf
      exact ⟨_, 0, Nat.zero_le _, rfl, rfl, rfl⟩
    rintro m env s ⟨i, hi, rfl, rfl, rfl⟩
    conv => whnf
    refine bcase_intro (fun h => ?_) (fun h => ?_) <;> conv => whnf
    · have hil := lt_of h
      rw [hlen] at hil
      obtain ⟨x, hx, _⟩ := at_i hil
      have hxb := hbb x (List.mem_of_getElem? hx)
      refine bcase_intro (fun hic => ?_) (fun hic => ?_) <;> conv => whnf
      · have hic : i = cut := by
          have : (i : Int) = (cut : Int) := by simpa using hic
          omega
        subst hic
        rw [hx0] at hx
        cases hx
        have hQ : (A ++ newE (x0.fl, x0.dr, x0.gn + 1) :: B)[i]? = some (newE (x0.fl, x0.dr, x0.gn + 1)) := by
          rw [List.getElem?_append_right (by omega), hlA, Nat.sub_self]; rfl
        have hgx := bad_gn (hbad x0 (List.mem_of_getElem? hx0))
        refine ⟨rowE (newE (x0.fl, x0.dr, x0.gn + 1)), ⟨by omega, row_i hQ⟩, ?_⟩
        conv => whnf
        refine ⟨rowE (newE (x0.fl, x0.dr, x0.gn + 1)), (fun _ => ⟨by omega, row_i hQ⟩), ?_⟩
        conv => whnf
        refine ⟨rowE (newE (x0.fl, x0.dr, x0.gn + 1)), (fun _ => ⟨by omega, row_i hQ⟩), ?_⟩
        conv => whnf
        refine ⟨rowE x0, (fun _ => ⟨by omega, row_i hx0⟩), ?_⟩
        conv => whnf
        rw [wrap_id (n := x0.gn + 1) (by omega) (by omega), show ((newE (x0.fl, x0.dr, x0.gn + 1)).gn != x0.gn + 1) = false by simp [newE]]
        conv => whnf
        rw [succ_i hil (by omega)]
        exact ⟨_, by omega, i + 1, hil, rfl, rfl, rfl⟩
      · have hic : i ≠ cut := by
          have : (i : Int) ≠ (cut : Int) := by simpa using hic
          omega
        have hQ : (A ++ newE (x0.fl, x0.dr, x0.gn + 1) :: B)[i]? = some x := by
          rw [← hx, hsp]
          rcases Nat.lt_or_ge i A.length with h1 | h1
          · rw [List.getElem?_append_left h1, List.getElem?_append_left h1]
          · rw [List.getElem?_append_right h1, List.getElem?_append_right h1]
            obtain ⟨k, hk⟩ : ∃ k, i - A.length = k + 1 := ⟨i - A.length - 1, by omega⟩
            rw [hk]; rfl
        refine bcase_intro (fun hgt => ?_) (fun hgt => ?_) <;> conv => whnf
        · have hgt : cut < i := by have := of_decide_eq_true hgt; omega
          have hP : (A ++ B)[i - 1]? = some x := by
            rw [← hx, hsp, List.getElem?_append_right (by omega), List.getElem?_append_right (by omega)]
            obtain ⟨k, hk⟩ : ∃ k, i - A.length = k + 1 := ⟨i - A.length - 1, by omega⟩
            rw [hk, show i - 1 - A.length = k by omega]; rfl
          rw [dec_i (a := i) (c := i - 1) (by omega) (by omega)]
          refine ⟨rowE x, ⟨by omega, row_i hP⟩, ?_⟩
          conv => whnf
          refine ⟨rowE x, ⟨by omega, row_i hx⟩, ?_⟩
          conv => whnf
          refine .scal [entV x, entV x] _ ⟨.refl _, rfl, sameEntry x x (by omega)⟩ ?_
          conv => whnf
          refine ⟨rowE x, (fun _ => ⟨by omega, row_i hQ⟩), ?_⟩
          conv => whnf
          refine ⟨rowE x, (fun _ => ⟨by omega, row_i hx⟩), ?_⟩
          conv => whnf
          refine .scal [entV x, entV x] _ (fun _ => ⟨.refl _, rfl, sameEntry x x (by omega)⟩) ?_
          conv => whnf
          rw [sameE_refl]
          conv => whnf
          rw [succ_i hil (by omega)]
          exact ⟨_, by omega, i + 1, hil, rfl, rfl, rfl⟩
        · have hgt : i < cut := by have := of_decide_eq_false hgt; omega
          have hP : (A ++ B)[i]? = some x := by
            rw [← hx, hsp, List.getElem?_append_left (by omega), List.getElem?_append_left (by omega)]
          refine ⟨rowE x, ⟨by omega, row_i hP⟩, ?_⟩
          conv => whnf
          refine ⟨rowE x, ⟨by omega, row_i hx⟩, ?_⟩
          conv => whnf
          refine .scal [entV x, entV x] _ ⟨.refl _, rfl, sameEntry x x (by omega)⟩ ?_
          conv => whnf
          refine ⟨rowE x, (fun _ => ⟨by omega, row_i hQ⟩), ?_⟩
          conv => whnf
          refine ⟨rowE x, (fun _ => ⟨by omega, row_i hx⟩), ?_⟩
          conv => whnf
          refine .scal [entV x, entV x] _ (fun _ => ⟨.refl _, rfl, sameEntry x x (by omega)⟩) ?_
          conv => whnf
          rw [sameE_refl]
          conv => whnf
          rw [succ_i hil (by omega)]
          exact ⟨_, by omega, i + 1, hil, rfl, rfl, rfl⟩
    · refine .scal [.d (.list 1 (rowsI mem)), .d (.list 1 (rowsI mem))] _ (fun _ => ⟨.refl _, rfl, sameInts34 mem mem (by omega)⟩) ?_
      conv => whnf
      exact ⟨rd_bool (by simp), rfl⟩
end Go.Proofs.Ytkenimmellonjaa
/- Seat r2: what comes in. -/
namespace Go.Proofs.Ytkenimmellonjaa
open Go.Pv Go.RowKit
theorem dat_int {n : Nat} {r : List DV} (h : Dat T (n + 1) 3 r) : ∃ m : Int, IntKind.min .i64 ≤ m ∧ m ≤ IntKind.max .i64 ∧ r = [.int .i64 m] := by
  obtain ⟨m, h1, h2, rfl⟩ := h
  exact ⟨m, h1, h2, rfl⟩
theorem dat_ints {n : Nat} {r : List DV} (h : Dat T (n + 2) 22 r) : ∃ (x : DV) (l : List Int), r = [x] ∧ l.length ≤ maxLen ∧ (∀ m ∈ l, IntKind.min .i64 ≤ m ∧ m ≤ IntKind.max .i64) ∧ ∀ {r r' : List AV}, WkL r r' → WkL (.d x :: r) (.d (.list 1 (rowsI l)) :: r') := by
  rcases h with h | ⟨rows, h1, h2, h⟩
  · exact ⟨.nil, [], h, by simp, by simp, fun hw => .n 1 hw⟩
  · have : ∃ ms : List Int, rows = rowsI ms ∧ ∀ m ∈ ms, IntKind.min .i64 ≤ m ∧ m ≤ IntKind.max .i64 := by
      clear h1 h
      induction rows with
      | nil => exact ⟨[], rfl, by simp⟩
      | cons r rs ih =>
        obtain ⟨ms, h3, h4⟩ := ih fun x hx => h2 x (List.mem_cons_of_mem _ hx)
        obtain ⟨m, h6, h7, h8⟩ := dat_int (h2 r (List.mem_cons_self ..))
        refine ⟨m :: ms, by rw [h3, h8]; rfl, ?_⟩
        intro x hx
        rcases List.mem_cons.1 hx with rfl | hx
        · exact ⟨h6, h7⟩
        · exact h4 x hx
    obtain ⟨ms, rfl, h3⟩ := this
    exact ⟨.list 1 (rowsI ms), ms, h, by simpa [rowsI] using h1, h3, fun hw => .s _ hw⟩
theorem arg_case {n : Nat} {x : AV} (h : ArgD T (n + 4) 45 x) : ∃ (car cars : Int) (out any : Bool) (alive ring : List Int) (since fnd : Int), ∀ {r r' : List AV}, WkL r r' → WkL (x :: r) (.agg [.d (.int .i64 car), .d (.int .i64 cars), .d (.bool out), .d (.bool any), .d (.list 1 (rowsI alive)), .d (.list 1 (rowsI ring)), .d (.int .i64 since), .d (.int .i64 fnd)] :: r') := by
  obtain ⟨xs, h, rfl⟩ := h
  obtain ⟨_, _, rfl, ⟨car, _, _, rfl⟩, _, _, rfl, ⟨cars, _, _, rfl⟩, _, _, rfl, ⟨out, rfl⟩, _, _, rfl, ⟨any, rfl⟩, _, _, rfl, hal, _, _, rfl, hri, _, _, rfl, ⟨since, _, _, rfl⟩, _, _, rfl, ⟨fnd, _, _, rfl⟩, rfl⟩ := h
  obtain ⟨x1, l1, rfl, _, _, hw1⟩ := dat_ints hal
  obtain ⟨x2, l2, rfl, _, _, hw2⟩ := dat_ints hri
  exact ⟨car, cars, out, any, l1, l2, since, fnd, fun hw => .a (.s _ (.s _ (.s _ (.s _ (hw1 (hw2 (.s _ (.s _ .nil)))))))) hw⟩
end Go.Proofs.Ytkenimmellonjaa
