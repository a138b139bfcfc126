/- The seat's texts, part 1: what single functions of the program compute; no statement of its own. -/
import Derived.Test.YtgadgajhahfabaaDoorTab
import Derived.Test.YtgadgajhahfabaaDoorRn
import Derived.Test.YtgadgajhahfabaaDoorFrD
import Derived.RangeFuncFrom
import Derived.Sort.MapsRangeIn
import Derived.Maps.RangeRun
import Derived.Maps.AppendAt
import Derived.WalkKit
import Derived.OwnWalkIn
import Derived.TacticsInMore
import Derived.RegionIn
import Derived.LoopNIn
import Derived.LoopIn
import Derived.RangeFuncBox
import Derived.Shelf.Abstract
import Derived.Tactics
/- Seat of TraceLooks: the keys of a map, one by one, in whatever order. -/
namespace Go.Proofs.YtgadgajhahfabaaDoor
open Go.RowKit Go.Maps
open Go.ChangeMaps (setBlock)
def encV (k : Int × Int × Int) : Value := .agg #[.int .i64 k.1, .int .i64 k.2.1, .int .i64 k.2.2]
theorem encV_inj {a b : Int × Int × Int} (h : encV a = encV b) : a = b := by
  simp [encV] at h
  exact Prod.ext h.1 (Prod.ext h.2.1 h.2.2)
section
variable {F : Fence} {n : Nat} {P : Program} {w : World} {ops : Array Oper} {rest : List Oper} {o : Oper} {a : Act} {Q : Exit → Act → World → Prop}
theorem range_raw (hg : o.guard = none) (m : Operand) (t : TypeId) (hop : o.op = Op.range t m) (k e : TypeId) (ht : P.underlying t = some (.map k e)) (b : Nat) (es : Array MapEntry) (clock : Nat) (hm : a.eval m = .map (some b)) (hb : w.heap[b]? = some (.map es clock))
    (hK : wpListIn F n P ops Q rest (a.put o.dst (.pointer (some ⟨w.heap.size, 0, none⟩))) (w.alloc (.mapIter (some b) clock #[] clock))) : wpListIn F n P ops Q (o :: rest) a w := by
  refine wpListIn_plain hg fun K' hK' => ?_
  have hrun : (Instr.range t (.map (some b))).run P w = .ok (.pointer (some ⟨w.heap.size, 0, none⟩)) (w.alloc (.mapIter (some b) clock #[] clock)) := by
    simp [Instr.range, Sem.run, Sem.run_bind, run_underlying ht, getObj, hb, Result.andThen, newObj]
  unfold Oper.wpIn
  refine ⟨?_, ?_⟩
  · simp [Oper.about, hop]
  · rw [Oper.semAt_plain F _ _ (by rw [hop]; intro c hc'; cases hc')]
    simp [execOp, hop, hm, hrun, Result.andThen]
    exact hK' _ _ hK
/-- The world itself, or with one draw more. -/
def Drawn (w w1 : World) : Prop := w1 = w ∨ w1 = w.drew
theorem next_raw (hg : o.guard = none) (it : Operand) (hop : o.op = Op.next it false) (b r since c0 : Nat) (seen : Array Nat) (es : Array MapEntry) (clock : Nat) (hit : a.eval it = .pointer (some ⟨r, 0, none⟩))
    (hr : w.heap[r]? = some (.mapIter (some b) since seen c0)) (hb : w.heap[b]? = some (.map es clock)) (hold : ∀ x ∈ es.toList, x.born < since) (hsc : since ≤ c0)
    (hDone : (∀ e ∈ es, e.born ∈ seen) → wpListIn F n P ops Q rest (a.put o.dst (.tuple #[.bool false])) w)
    (hMore : ∀ e ∈ es, ¬ e.born ∈ seen → ∀ w1, Drawn w w1 → wpListIn F n P ops Q rest (a.put o.dst (.tuple #[.bool true, e.key, e.val])) (setBlock w1 r (.mapIter (some b) since (seen.push e.born) clock))) :
    wpListIn F n P ops Q (o :: rest) a w := by
  refine wpListIn_plain hg fun K' hK' => ?_
  unfold Oper.wpIn
  refine ⟨by simp [Oper.about, hop], ?_⟩
  rw [Oper.semAt_plain F _ _ (by rw [hop]; intro c hc'; cases hc')]
  rcases run_next_at (P := P) w o.type r b since c0 seen es clock hr hb hold hsc with ⟨h0, hrun⟩ | ⟨e, he, w1, hw1, hrun⟩
  · simp [execOp, hop, hit, hrun, Result.andThen]
    refine hK' _ _ (hDone fun e he => ?_)
    have h1 : leftOf es seen = #[] := Array.eq_empty_of_size_eq_zero h0
    unfold leftOf at h1
    rw [Array.filter_eq_empty_iff] at h1
    simpa using h1 e he
  · simp [execOp, hop, hit, hrun, Result.andThen]
    unfold leftOf at he
    have he2 := Array.mem_filter.1 (Array.mem_toList_iff.1 he)
    exact hK' _ _ (hMore e he2.1 (by simpa using he2.2) w1 hw1)
theorem entry_raw (hg : o.guard = none) (it : Operand) (hop : o.op = Op.entry it) (b r since : Nat) (seen : Array Nat) (es : Array MapEntry) (clock : Nat) (e : MapEntry) (hit : a.eval it = .pointer (some ⟨r, 0, none⟩))
    (hr : w.heap[r]? = some (.mapIter (some b) since (seen.push e.born) clock)) (hb : w.heap[b]? = some (.map es clock)) (he : e ∈ es.toList) (hn : (es.toList.map (·.born)).Nodup)
    (hK : wpListIn F n P ops Q rest (a.put o.dst (.tuple #[e.key, e.val])) w) :
    wpListIn F n P ops Q (o :: rest) a w := by
  refine wpListIn_plain hg fun K' hK' => ?_
  unfold Oper.wpIn
  refine ⟨by simp [Oper.about, hop], ?_⟩
  rw [Oper.semAt_plain F _ _ (by rw [hop]; intro c hc'; cases hc')]
  simp [execOp, hop, hit, run_entry_at (P := P) w r b since seen es clock e hr hb he hn, Result.andThen]
  exact hK' _ _ hK
end
def seenAt (W : World) (r : Nat) : Nat := match W.heap[r]? with
  | some (.mapIter _ _ seen _) => seen.size
  | _ => 0
/-- A map's walk under way: nothing is laid into it; what has come. -/
structure Ranging (W : World) (b r : Nat) (es : Array MapEntry) (clock : Nat) (done : List MapEntry) (seen : Array Nat) (c0 : Nat) : Prop where
  map : W.heap[b]? = some (.map es clock)
  iter : W.heap[r]? = some (.mapIter (some b) clock seen c0)
  le : clock ≤ c0
  sub : ∀ e ∈ done, e ∈ es.toList
  nd : (done.map (·.born)).Nodup
  born : seen.toList = done.map (·.born)
theorem nodup_of_map {α β : Type} {f : α → β} : ∀ {l : List α}, (l.map f).Nodup → l.Nodup
  | [], _ => .nil
  | a :: r, h => by
    rw [List.map_cons, List.nodup_cons] at h
    exact List.nodup_cons.2 ⟨fun ha => h.1 (List.mem_map_of_mem ha), nodup_of_map h.2⟩
theorem nd_leV : ∀ {a b : List Nat}, a.Nodup → (∀ x ∈ a, x ∈ b) → a.length ≤ b.length
  | [], _, _, _ => Nat.zero_le _
  | x :: r, b, h, hs => by
    have hx := hs x (List.mem_cons_self ..)
    have h2 := nd_leV (a := r) (b := b.erase x) (List.nodup_cons.1 h).2 fun y hy => (List.mem_erase_of_ne (show y ≠ x from fun e => (List.nodup_cons.1 h).1 (by rw [← e]; exact hy))).2 (hs y (List.mem_cons_of_mem _ hy))
    rw [List.length_erase_of_mem hx] at h2
    have := List.length_pos_of_mem hx
    rw [List.length_cons]
    omega
theorem Ranging.len {W : World} {b r clock c0 : Nat} {es : Array MapEntry} {done : List MapEntry} {seen : Array Nat} (h : Ranging W b r es clock done seen c0) : done.length ≤ es.size := by
  have := nd_leV h.nd (b := es.toList.map (·.born)) fun x hx => by
    obtain ⟨e, he, rfl⟩ := List.mem_map.1 hx
    exact List.mem_map_of_mem (h.sub e he)
  simpa using this
theorem Ranging.step {W W' : World} {b r clock c0 : Nat} {es : Array MapEntry} {done : List MapEntry} {seen : Array Nat} (h : Ranging W b r es clock done seen c0) {e : MapEntry} (he : e ∈ es) (hs : ¬ e.born ∈ seen) (hd : Drawn W W') :
    Ranging (setBlock W' r (.mapIter (some b) clock (seen.push e.born) clock)) b r es clock (done ++ [e]) (seen.push e.born) clock := by
  have hrb : r ≠ b := fun q => by have h1 := h.iter; rw [q, h.map] at h1; cases h1
  have hh : W'.heap = W.heap := by rcases hd with rfl | rfl <;> rfl
  have hlt := (Array.getElem?_eq_some_iff.1 h.iter).1
  refine ⟨?_, ?_, Nat.le_refl _, fun x hx => ?_, ?_, ?_⟩
  · show (W'.heap.setIfInBounds r _)[b]? = _
    rw [Array.getElem?_setIfInBounds_ne hrb, hh]; exact h.map
  · show (W'.heap.setIfInBounds r _)[r]? = _
    rw [Array.getElem?_setIfInBounds_self_of_lt (by rw [hh]; exact hlt)]
  · rcases List.mem_append.1 hx with hx | hx
    · exact h.sub x hx
    · rw [List.mem_singleton.1 hx]; simpa using he
  · rw [List.map_append, List.nodup_append]
    refine ⟨h.nd, by simp, fun x hx y hy => ?_⟩
    rw [List.map_singleton, List.mem_singleton] at hy
    subst hy
    intro q
    refine hs ?_
    rw [← Array.mem_toList_iff, h.born, ← q]; exact hx
  · rw [Array.toList_push, h.born, List.map_append]; rfl
theorem Ranging.grown {W : World} {b r clock c0 : Nat} {es : Array MapEntry} {done : List MapEntry} {seen : Array Nat} (h : Ranging W b r es clock done seen c0) {W' : World} (hd : Drawn W W') (o : Obj) : W.grownBy (setBlock W' r o) (some r) := by
  have hh : W'.heap = W.heap ∧ W'.os = W.os ∧ W'.output = W.output ∧ W'.tape = W.tape := by rcases hd with rfl | rfl <;> exact ⟨rfl, rfl, rfl, rfl⟩
  refine ⟨hh.2.1, hh.2.2.2, hh.2.2.1, ?_, fun k _ hk => ?_⟩
  · show W.heap.size ≤ (W'.heap.setIfInBounds r o).size
    rw [Array.size_setIfInBounds, hh.1]; exact Nat.le_refl _
  · show (W'.heap.setIfInBounds r o)[k]? = _
    rw [Array.getElem?_setIfInBounds_ne (fun q => hk (by rw [q])), hh.1]
theorem Ranging.alloc {W : World} {b r clock c0 : Nat} {es : Array MapEntry} {done : List MapEntry} {seen : Array Nat} (h : Ranging W b r es clock done seen c0) (o : Obj) : Ranging (W.alloc o) b r es clock done seen c0 :=
  ⟨(Below.heap_alloc W o b (Array.getElem?_eq_some_iff.1 h.map).1).trans h.map, (Below.heap_alloc W o r (Array.getElem?_eq_some_iff.1 h.iter).1).trans h.iter, h.le, h.sub, h.nd, h.born⟩
theorem Ranging.walks {W W' : World} {b r clock c0 : Nat} {es : Array MapEntry} {done : List MapEntry} {seen : Array Nat} (h : Ranging W b r es clock done seen c0) (hk : KeepsWalks W W') : Ranging W' b r es clock done seen c0 :=
  ⟨hk.same _ _ h.map rfl, hk.same _ _ h.iter rfl, h.le, h.sub, h.nd, h.born⟩
theorem Ranging.seen {W : World} {b r clock c0 : Nat} {es : Array MapEntry} {done : List MapEntry} {seen : Array Nat} (h : Ranging W b r es clock done seen c0) : seenAt W r = done.length := by
  have h1 := congrArg List.length h.born
  unfold seenAt
  rw [h.iter]
  simpa using h1
theorem Ranging.all {W : World} {b r clock c0 : Nat} {es : Array MapEntry} {done : List MapEntry} {seen : Array Nat} (h : Ranging W b r es clock done seen c0) (hn : (es.toList.map (·.born)).Nodup) (hd : ∀ e ∈ es, e.born ∈ seen) : done.Perm es.toList := by
  have hnd := nodup_of_map hn
  refine (List.perm_ext_iff_of_nodup (nodup_of_map h.nd) hnd).2 fun e => ⟨h.sub e, fun he => ?_⟩
  have h1 := hd e (by simpa using he)
  rw [← Array.mem_toList_iff, h.born] at h1
  obtain ⟨e', he', hb⟩ := List.mem_map.1 h1
  have := born_inj hn he (h.sub e' he') hb.symm
  exact this ▸ he'
set_option maxRecDepth 100000 in
set_option maxHeartbeats 1000000 in
theorem keys1 (F : Fence) (n : Nat) (h22 : F.fn 22) (hro : F.round = none) (hn : 1 ≤ n) (l Bm b : Nat) (es : Array MapEntry) (clock : Nat) (hold : ∀ x ∈ es.toList, x.born < clock) (hval : ∀ x ∈ es.toList, ∃ k, x.key = encV k) (hnd : (es.toList.map (·.born)).Nodup) (J Jx : List (Int × Int × Int) → World → Prop)
    (hY : ∀ pre x W, J pre W → pre.length < es.size → YieldAt F (n - 1) Tryd.prog l #[encV x] W fun e W' => (e = .returned (.bool true) ∧ J (pre ++ [x]) W' ∧ KeepsWalks W W') ∨ (e = .returned (.bool false) ∧ Jx (pre ++ [x]) W'))
    (W : World) (hJ : AbidesFrom W.heap.size J) (hm : W.cell? ⟨Bm, 0, none⟩ = some (.map (some b))) (hb : W.heap[b]? = some (.map es clock)) (h0 : J [] W) :
    CallsIn F n Tryd.prog 22 #[.func (.yield l) #[] #[], .pointer (some ⟨Bm, 0, none⟩)] W fun e W' => (∃ v, e = .returned v) ∧ ((∃ ss : List (Int × Int × Int), (ss.map encV).Perm (es.toList.map (·.key)) ∧ J ss W') ∨ ∃ pre, Jx pre W') := by
  refine callsIn_of_wp Tryd.func22 rfl h22 ?_ hro
  simp only [Tryd.ntmps22, List.size_toArray, List.length_cons, List.length_nil, Nat.reduceAdd, Nat.reduceSub, Array.replicate_succ, Array.replicate_zero, List.push_toArray, List.append_toArray, List.nil_append, List.cons_append]
  have hbl := (Array.getElem?_eq_some_iff.1 hb).1
  gi_wp2_with (first
    | (gi_at_range; refine range_raw rfl _ 52 rfl 31 3 Tryd.underlying52 b es clock rfl hb ?_)
    | gi_in)
  go_frame
  gi_loopw [3] (fun _ wr => ∃ (done : List MapEntry) (seen : Array Nat) (c0 : Nat) (ss : List (Int × Int × Int)), Ranging wr b W.heap.size es clock done seen c0 ∧ ss.map encV = done.map (·.key) ∧ J ss wr)
    (fun _ wr => es.size - seenAt wr W.heap.size)
  case atStart =>
    exact ⟨[], #[], clock, [], ⟨(Below.heap_alloc W _ b hbl).trans hb, World.alloc_heap_new W _, Nat.le_refl _, by simp, by simp, by simp⟩, rfl, hJ [] W _ none h0 (World.grownBy_alloc W _ none) (fun r e => by cases e)⟩
  case round =>
    obtain ⟨done, seen, c0, ss, hrg, hss, hJs⟩ := hrel
    gi_wp2_with (first
      | (gi_at_next; refine next_raw rfl _ rfl b W.heap.size clock c0 seen es clock rfl hrg.iter hrg.map hold hrg.le ?_ ?_)
      | gi_in)
    · intro hall
      gi_wp2
      go_end0
      refine ⟨⟨_, rfl⟩, .inl ⟨ss, ?_, hJs⟩⟩
      rw [hss]
      exact (hrg.all hnd hall).map _
    · intro e he hes w1 hw1
      obtain ⟨k, hk⟩ := hval e (by simpa using he)
      have hrg2 := hrg.step he hes hw1
      have hg2 := hrg.grown hw1 (.mapIter (some b) clock (seen.push e.born) clock)
      have hJ2 := hJ ss wr _ (some W.heap.size) hJs hg2 (fun r q => by cases q; exact ⟨Nat.le_refl _, _, hrg.iter, rfl⟩)
      have hen := run_entry_at (P := Tryd.prog) _ W.heap.size b clock seen es clock e hrg2.iter hrg2.map (by simpa using he) hnd
      clear hg2
      generalize setBlock w1 W.heap.size (.mapIter (some b) clock (seen.push e.born) clock) = w2 at hrg2 hJ2 hen
      rw [hk] at hen
      rw [hk]
      unfold encV at hen
      unfold encV
      have hlen : ss.length < es.size := by
        have h1 := hrg2.len
        have h2 := congrArg List.length hss
        simp only [List.length_map, List.length_append, List.length_cons, List.length_nil] at h1 h2
        omega
      have hJ3 := hJ ss w2 _ none hJ2 (World.grownBy_alloc w2 (.cells #[.int .i64 k.1, .int .i64 k.2.1, .int .i64 k.2.2] 31) none) (fun r e => by cases e)
      have hrg3 := hrg2.alloc (.cells #[.int .i64 k.1, .int .i64 k.2.1, .int .i64 k.2.2] 31)
      obtain ⟨fn, tmps, assign, body, hy, hR⟩ := hY ss k _ hJ3 hlen
      unfold encV at hy
      gi_wp2
      refine hR.mono ?_
      rintro e' W3 (⟨rfl, hJ4, hk4⟩ | ⟨rfl, hJ4⟩)
      · gi_wp2
        have hrg4 := hrg3.walks hk4
        go_roundw
        case rel => exact ⟨done ++ [e], _, _, ss ++ [k], hrg4, by rw [List.map_append, List.map_append, hss, List.map_singleton, List.map_singleton, hk], hJ4⟩
        case measure =>
          rw [hrg4.seen, hrg.seen]
          have h1 := hrg4.len
          simp only [List.length_append, List.length_cons, List.length_nil] at h1 ⊢
          omega
      · gi_wp2
        refine bodyPost_ret (results_none rfl _ _ _) rfl ?_
        exact ⟨⟨_, rfl⟩, .inr ⟨_, hJ4⟩⟩
/-- What maps.Keys hands back, as an iterator. -/
theorem keys_stops (F : Fence) (n : Nat) (h22 : F.fn 22) (hro : F.round = none) (hn : 1 ≤ n) (Bm b : Nat) (es : Array MapEntry) (clock : Nat) (hold : ∀ x ∈ es.toList, x.born < clock) (hval : ∀ x ∈ es.toList, ∃ k, x.key = encV k) (hnd : (es.toList.map (·.born)).Nodup)
    (w : World) (hBm : Bm < w.heap.size) (hm : w.cell? ⟨Bm, 0, none⟩ = some (.map (some b))) (hb : w.heap[b]? = some (.map es clock)) :
    SeqStopsK F n Tryd.prog 22 #[.pointer (some ⟨Bm, 0, none⟩)] (fun x => #[encV x]) KeepsWalks (fun ss => (ss.map encV).Perm (es.toList.map (·.key))) (fun _ => True) es.size w := fun l J Jx W hW hJ _ hY h0 => by
  refine (keys1 F n h22 hro hn l Bm b es clock hold hval hnd J Jx hY W hJ ((hW.cell (p := ⟨Bm, 0, none⟩) hBm).trans hm) ((hW.block b (Array.getElem?_eq_some_iff.1 hb).1).trans hb) h0).mono ?_
  rintro e W' ⟨hv, ⟨ss, hs, hj⟩ | ⟨pre, hj⟩⟩
  · exact ⟨hv, .inl ⟨ss, hs, hj⟩⟩
  · exact ⟨hv, .inr ⟨pre, trivial, hj⟩⟩
end Go.Proofs.YtgadgajhahfabaaDoor
/- Seat of TraceLooks: a loop over an iterator whose variable lies in a box of its own each round; what has come, as a row. -/
namespace Go.Proofs.YtgadgajhahfabaaDoor
open Go.RowKit Go.Maps Go.Shelf
section
variable {F : Fence} {n : Nat} {P : Program}
/-- The loop over an iterator that never is left early; the round's own variable is laid anew each round. -/
theorem rangeFunc_box {α : Type} {g : Operand} {ps : Array Tmp} {assign body : Code} {Q : Exit → Act → World → Prop} {a : Act} {w : World}
    (hro : F.round = none) (h1 : 1 ≤ n) {gf : Nat} {lb : Array Value} (hg : a.eval g = .func (.func gf) #[] lb) (hFg : F.fn gf) (eg : ∀ args w, (callFunc gf args).run P w = .ok (.enter gf args) w)
    {encs : α → Array Value} {S Sp : List α → Prop} {N : Nat} (hseq : SeqStopsK F (n - 1) P gf lb encs KeepsWalks S Sp N w) (hps : ∀ x, (encs x).size = ps.size)
    (I : List α → World → Prop) (hI : OwnFrom w.heap.size I) (h0 : I [] w) (Im : List α × α × Act → World → Prop) (hIm : OwnFrom w.heap.size Im)
    (hassign : ∀ (l : Nat) (pre : List α) (x : α) (W : World), I pre W → pre.length < N →
      assign.wpIn (F.inRound l) (n - 1 - 1) P (Exit.then (fun a₁ W₁ => KeepsOthers W W₁ ∧ Im (pre, x, a₁) W₁) (fun _ _ _ => False)) { tmps := (ps.zip (encs x)).foldl (fun t (p, v) => t.setIfInBounds p v) a.tmps, defers := [] } W)
    (hbody : ∀ (l : Nat) (pre : List α) (x : α) (a₁ : Act) (W : World), Im (pre, x, a₁) W → body.wpIn (F.inRound l) (n - 1 - 1) P (fun e _ W' => e = .normal ∧ KeepsOthers W W' ∧ I (pre ++ [x]) W') a₁ W)
    (hdone : ∀ (D : Nat) (xs : List α) (W : World), w.heap.size ≤ D → S xs → I xs W → W.heap[D]? = some (.deferred (some [])) → Q .normal { a with defers := { target := .collected D, args := #[] } :: a.defers } W) :
    (Code.rangeFunc g ps assign body).wpIn F n P Q a w := by
  refine wpIn_rangeFunc fun fn hfn => ?_
  rw [hro]
  obtain ⟨rec, hrec⟩ : ∃ rec : LoopState → Option Code → Loop, ∀ st pe, rec st pe = { state := st, pending := pe, fn, tmps := a.tmps, params := ps, assign, body, defers := w.heap.size } := ⟨_, fun _ _ => rfl⟩
  obtain ⟨W1, hW1⟩ : ∃ W1, (w.alloc (.deferred (some []))).alloc (.loop (rec .ready none)) = W1 := ⟨_, rfl⟩
  have e1 : W1.heap[w.heap.size + 1]? = some (.loop (rec .ready none)) := by
    subst hW1
    have := World.alloc_heap_new (w.alloc (.deferred (some []))) (.loop (rec .ready none))
    rwa [World.size_alloc] at this
  have e2 : W1.heap[w.heap.size]? = some (.deferred (some [])) := by
    subst hW1
    exact (Below.heap_alloc _ _ _ (by simp)).trans (World.alloc_heap_new w _)
  have e3 : W1.heap.size = w.heap.size + 2 := by subst hW1; simp
  have e4 : I [] W1 := by subst hW1; exact hI.alloc _ (hI.alloc _ h0)
  have e5 : Below w.heap.size w W1 := by
    subst hW1
    exact ((Below.refl _ w).alloc (Nat.le_refl _) _).alloc (by simp) _
  refine ⟨w.heap.size + 1, [{ target := .collected w.heap.size, args := #[] }], W1, { target := .fn (.func gf) lb, args := #[.func (.yield (w.heap.size + 1)) #[] #[]] }, W1, gf,
    #[.func (.yield (w.heap.size + 1)) #[] #[]] ++ lb, W1, ?_, ?_, ?_, ?_, fun _ => h1, ?_⟩
  · rw [← hW1, hrec]; exact run_enterLoop_outer _ _ _ _ _
  · simp only [resolve, hg]
    simp [go_sem]
  · intro f' hf'
    simp [Target.leads] at hf'
    subst hf'
    exact hFg
  · simp [invoke, go_sem, eg]
  -- the iterator's contract
  refine (hseq (w.heap.size + 1) (fun pre W => I pre W ∧ W.heap[w.heap.size + 1]? = some (.loop (rec .ready none)) ∧ W.heap[w.heap.size]? = some (.deferred (some []))) (fun _ _ => False) W1 e5 ?_ (fun _ _ _ _ hs _ _ => hs) ?_ ⟨e4, e1, e2⟩).mono ?_
  · intro s A B row hs hgr hr
    have hw : ∀ r, row = some r → ∃ o : Obj, A.heap[r]? = some o ∧ o.isWalk = true := fun r e => (hr r e).2
    refine ⟨hI s A B row hs.1 hgr fun r e => ?_, (grownBy_keeps hgr hw hs.2.1 rfl).trans hs.2.1, (grownBy_keeps hgr hw hs.2.2 rfl).trans hs.2.2⟩
    obtain ⟨q1, o, q2, q3⟩ := hr r e
    exact ⟨by omega, o, q2, Obj.not_cells_of_walk q3⟩
  · rintro pre x W ⟨i1, i2, i3⟩ hlen
    have hy := run_yield (P := P) (args := encs x) i2 (by rw [hrec]; exact hps x)
    rw [hrec] at hy
    refine ⟨fn, _, assign, body, hy, roundIn_of_wpIn hfn (wpIn_mono (hassign _ pre x W i1 hlen) ?_)⟩
    intro e a₁ W₁ hp
    cases e with
    | normal =>
      obtain ⟨k1, m1⟩ := hp
      have l1 := k1.same _ _ i2 rfl
      have d1 := k1.same _ _ i3 rfl
      refine ⟨_, run_beginRound l1 (by rw [hrec]), ?_⟩
      have m2 := hIm.putObj (.loop { rec .ready none with state := .busy }) m1 (by omega) l1 rfl
      have l2 : (W₁.putObj (w.heap.size + 1) (.loop { rec .ready none with state := .busy })).heap[w.heap.size + 1]? = some (.loop { rec .ready none with state := .busy }) := World.putObj_heap_same (Array.getElem?_eq_some_iff.1 l1).1
      have d2 : (W₁.putObj (w.heap.size + 1) (.loop { rec .ready none with state := .busy })).heap[w.heap.size]? = some (.deferred (some [])) := (World.putObj_heap_other (by omega)).trans d1
      have w2 : KeepsWalks W (W₁.putObj (w.heap.size + 1) (.loop { rec .ready none with state := .busy })) := k1.walks.trans (KeepsWalks.putObj _ l1 rfl)
      refine wpIn_mono (hbody _ pre x a₁ _ m2) ?_
      rintro e a3 W3 ⟨rfl, k3, i3⟩
      have l3 := k3.same _ _ l2 rfl
      have d3 := k3.same _ _ d2 rfl
      refine ⟨_, _, run_endRound none l3, .inl ⟨rfl, ⟨hI.putObj _ i3 (by omega) l3 rfl, ?_, (World.putObj_heap_other (by omega)).trans d3⟩, (w2.trans k3.walks).trans (KeepsWalks.putObj _ l3 rfl)⟩⟩
      rw [World.putObj_heap_same (Array.getElem?_eq_some_iff.1 l3).1, hrec]
      rfl
    | _ => exact hp.elim
  · rintro e W2 ⟨⟨v, rfl⟩, ⟨xs, hS, i1, i2, i3⟩ | ⟨_, _, hf⟩⟩
    · have := run_endLoop (P := P) i2 (by rw [hrec]; simp)
      rw [hrec] at this
      exact ⟨none, _, this, hdone _ xs _ (Nat.le_refl _) hS (hI.putObj _ i1 (by omega) i2 rfl) ((World.putObj_heap_other (by omega)).trans i3)⟩
    · exact hf.elim
end
def cellsK (k : Int × Int × Int) : List Value := [.int .i64 k.1, .int .i64 k.2.1, .int .i64 k.2.2]
theorem cell_three (w : World) (x : Int × Int × Int) : ∀ (j : Nat) (u : Value), (cellsK x)[j]? = some u → (w.alloc (.cells #[.int .i64 x.1, .int .i64 x.2.1, .int .i64 x.2.2] 31)).cell? ((⟨w.heap.size, 0, none⟩ : Addr).add j) = some u := by
  intro j u hu
  have hj : j < 3 := by
    have := (List.getElem?_eq_some_iff.1 hu).1
    simpa [cellsK] using this
  match j, hj with
  | 0, _ => simp [cellsK] at hu; subst hu; simp [Addr.add]
  | 1, _ => simp [cellsK] at hu; subst hu; simp [Addr.add]
  | 2, _ => simp [cellsK] at hu; subst hu; simp [Addr.add]
/-- All that lies in a slice's own block fills one cell each. -/
def OneRow (W : World) (v : Value) : Prop := ∀ (g : Nat) (cur : Array Value) (t : TypeId) (fr : Nat × Nat), v.ownBlock = some g → W.heap[g]? = some (.cells cur t fr) → ∀ u ∈ cur.toList, u.oneCell' = true
theorem OneRow.kept {W W' : World} {row : Option Nat} {base : Nat} {e : TypeId} {size k : Nat} {v : Value} {xs : List Value} (h : OneRow W v) (hr : W.ownsRow base e size v k xs) (hg : W.grownBy W' row) (hne : v.ownBlock = none ∨ v.ownBlock ≠ row) : OneRow W' v := by
  intro g cur t fr hv hW u hu
  rcases hr.2 with ⟨rfl, _⟩ | ⟨g2, cap, cur2, rfl, _, hgb, _⟩
  · simp [Value.ownBlock] at hv
  · obtain rfl : g2 = g := by simpa [Value.ownBlock] using hv
    have hlt := (Array.getElem?_eq_some_iff.1 hgb).1
    rw [hg.block g2 hlt (fun q => by rcases hne with h1 | h1 <;> simp [Value.ownBlock] at h1; exact h1 q)] at hW
    exact h g2 cur t fr (by simp [Value.ownBlock]) hW u hu
theorem OneRow.nil (W : World) : OneRow W (.slice none 0 0) := by
  intro g cur t fr hv
  simp [Value.ownBlock] at hv
theorem one_zeros {n : Nat} {z : Array Value} (hz : ∀ u ∈ z.toList, u.oneCell' = true) : ∀ u ∈ (Builtin.zeroCells z n).toList, u.oneCell' = true := by
  intro u hu
  unfold Builtin.zeroCells at hu
  rw [Array.toList_map] at hu
  obtain ⟨i, hi, rfl⟩ := List.mem_map.1 hu
  have hi : i < n * z.size := by simpa using hi
  have hp : 0 < z.size := by
    rcases Nat.eq_zero_or_pos z.size with h | h
    · rw [h] at hi; omega
    · exact h
  have hlt := Nat.mod_lt i hp
  rw [getElem!_pos z (i % z.size) hlt]
  exact hz _ (by simp)
theorem append_one {P : Program} (w : World) (base : Nat) (t ty e : TypeId) (i : TypeInfo) (z : Value) (size bytes : Nat) (ht : P.underlying t = some (.slice e)) (hi : P.info? e = some i) (hz : i.zero = some z)
    (hsize : i.size = size) (hby : i.bytes = bytes) (hzs : z.cells.size = size) (hz1 : ∀ u ∈ z.cells.toList, u.oneCell' = true)
    (v : Value) (n : Nat) (xs : List Value) (hown : w.ownsRow base e size v n xs) (ho : OneRow w v)
    (a : Addr) (m c : Nat) (news : List Value) (hm : 0 < m) (hl : news.length = m * size) (hnews : ∀ j u, news[j]? = some u → w.cell? (a.add j) = some u) (h1 : ∀ u ∈ news, u.oneCell' = true)
    (h63 : n + m ≤ maxLen) (hbytes : (n + m) * bytes ≤ 140737488355328) {v' : Value} {w' : World} (hrun : (Builtin.append_ #[t, t] ty #[v, .slice (some a) m c]).run P w = .ok v' w') : OneRow w' v' := by
  subst hsize
  subst hby
  have hsmall : n + m ≤ 9223372036854775807 := by simp only [maxLen] at h63; omega
  rcases hown.2 with ⟨rfl, rfl⟩ | ⟨g, cap, cur, rfl, _, hg, hnc, _, hcs, htk⟩
  · have hr := run_append_nil (P := P) w t ty e i z ht hi hz a m c news hl hnews hm (by omega) (by simp only [Nat.zero_add] at hbytes; omega)
    rw [hr] at hrun
    cases hrun
    intro b cur2 t2 fr hv hW u hu
    obtain rfl : w.heap.size = b := by simpa [Value.ownBlock] using hv
    have := heap_alloc_new w.drew (.cells (news.toArray ++ Builtin.zeroCells z.cells (grownCap w m 0 e - m)) e)
    rw [show w.drew.heap.size = w.heap.size from rfl] at this
    rw [this] at hW
    cases hW
    rw [Array.toList_append] at hu
    rcases List.mem_append.1 hu with hu | hu
    · exact h1 u (by simpa using hu)
    · exact one_zeros hz1 u hu
  · have hcur : ∀ u ∈ cur.toList, u.oneCell' = true := ho g cur e (0, 0) (by simp [Value.ownBlock]) hg
    by_cases hroom : n + m ≤ cap
    · have hfit : n * i.size + news.length ≤ cur.size := by rw [hl, hcs, ← Nat.add_mul]; exact Nat.mul_le_mul_right _ hroom
      have hr := run_append_room (P := P) w t ty e i ht hi g n cap cur hg a m c news hl hnews h1 hroom hfit
      rw [hr] at hrun
      cases hrun
      intro b cur2 t2 fr hv hW u hu
      obtain rfl : g = b := by simpa [Value.ownBlock] using hv
      rw [setRow_heap w g cur _ e _ hg] at hW
      cases hW
      rw [List.toList_toArray] at hu
      rcases List.mem_append.1 hu with hu | hu
      · rcases List.mem_append.1 hu with hu | hu
        · exact hcur u (List.mem_of_mem_take hu)
        · exact h1 u hu
      · exact hcur u (List.mem_of_mem_drop hu)
    · have holds : ∀ j u, xs[j]? = some u → w.cell? ((⟨g, 0, none⟩ : Addr).add j) = some u := hown.cells (g := g) rfl
      have hr := run_append_grow (P := P) w t ty e i z ht hi hz ⟨g, 0, none⟩ n cap xs hown.1 holds a m c news hl hnews (by omega) (by omega) (growslice_fits (by omega) hbytes)
      rw [hr] at hrun
      cases hrun
      intro b cur2 t2 fr hv hW u hu
      obtain rfl : w.heap.size = b := by simpa [Value.ownBlock] using hv
      have := heap_alloc_new w.drew (.cells (xs.toArray ++ news.toArray ++ Builtin.zeroCells z.cells (grownCap w (n + m) cap e - (n + m))) e)
      rw [show w.drew.heap.size = w.heap.size from rfl] at this
      rw [this] at hW
      cases hW
      rw [Array.toList_append, Array.toList_append] at hu
      rcases List.mem_append.1 hu with hu | hu
      · rcases List.mem_append.1 hu with hu | hu
        · refine hcur u ?_
          rw [← htk] at hu
          exact List.mem_of_mem_take (by simpa using hu)
        · exact h1 u (by simpa using hu)
      · exact one_zeros hz1 u hu
/-- 'append' onto a slice of the call's own, all of whose block fills one cell each. -/
theorem append_raw {F : Fence} {n : Nat} {P : Program} (w : World) {ops : Array Oper} {rest : List Oper} {o : Oper} {a : Act} {Q : Exit → Act → World → Prop}
    (hg : o.guard = none) (s x : Operand) (t : TypeId) (hop : o.op = Op.call { callee := Callee.builtin Builtin.append, args := #[s, x], argTypes := #[t, t] })
    (base : Nat) (e : TypeId) (i : TypeInfo) (z : Value) (size bytes : Nat) (h1 : P.underlying t = some (.slice e)) (h2 : P.info? e = some i) (h3 : i.zero = some z) (h4 : i.size = size) (h5 : i.bytes = bytes) (h6 : z.cells.size = size) (h7 : 0 < size) (hz1 : ∀ u ∈ z.cells.toList, u.oneCell' = true)
    (v : Value) (k : Nat) (xs : List Value) (hs : a.eval s = v) (hown : w.ownsRow base e size v k xs) (ho : OneRow w v) (ad : Addr) (m c : Nat) (hm : 0 < m) (news : List Value) (hx : a.eval x = .slice (some ad) m c) (hn : news.length = m * size)
    (hc : ∀ j u, news[j]? = some u → w.cell? (ad.add j) = some u) (h1c : ∀ u ∈ news, u.oneCell' = true) (b1 : k + m ≤ maxLen) (b2 : (k + m) * bytes ≤ 140737488355328) (b3 : base ≤ w.heap.size)
    (hK : ∀ v' w', w'.ownsRow base e size v' (k + m) (xs ++ news) → w.grownBy w' v.ownBlock → OneRow w' v' → wpListIn F n P ops Q rest (a.put o.dst v') w') :
    wpListIn F n P ops Q (o :: rest) a w := by
  refine wpListIn_plain hg fun K hK' => ?_
  obtain ⟨v', w', hrun, r1, r2, _⟩ := run_append_own (P := P) w base t o.type e i z size bytes h1 h2 h3 h4 h5 h6 h7 v k xs hown ad m c news hn hc h1c b1 b2 b3
  have r4 := append_one (P := P) w base t o.type e i z size bytes h1 h2 h3 h4 h5 h6 hz1 v k xs hown ho ad m c news hm hn hc h1c b1 b2 hrun
  unfold Oper.wpIn
  refine ⟨?_, ?_⟩
  · simp [Oper.about, hop, resolve, Target.leads, Sem.run_pure]
  · rw [Oper.semAt_plain F _ _ (by rw [hop]; intro c hc'; cases hc')]
    simp [execOp, hop, resolve, invoke, builtin, hs, hx, hrun, Result.andThen]
    exact hK' _ _ (hK v' w' r1 r2 r4)
/-- What has come so far, in the box. -/
def RowAt (n₀ : Nat) (ss : List (Int × Int × Int)) (W : World) : Prop := ∃ v, Boxed W n₀ 35 v ∧ W.ownsRow n₀ 31 3 v ss.length (ss.flatMap cellsK) ∧ OneRow W v
theorem rowAt_own {β : Type} (n₀ : Nat) (f : β → List (Int × Int × Int)) : Own (fun s W => RowAt n₀ (f s) W) := by
  rintro s X Y row ⟨v, hv, hr, ho⟩ hg hrow
  have hne : v.ownBlock = none ∨ v.ownBlock ≠ row := by
    rcases hr.2 with ⟨rfl, _⟩ | ⟨g, cap, cur, rfl, _, hgb, _⟩
    · exact .inl rfl
    · refine .inr fun e' => ?_
      obtain ⟨o, ho, hc⟩ := hrow g (by simpa [Value.ownBlock] using e'.symm)
      rw [hgb] at ho; cases ho; cases hc
  refine ⟨v, hv.kept hg (fun e' => ?_), hr.kept hg hne, ho.kept hr hg hne⟩
  obtain ⟨o, ho, hc⟩ := hrow n₀ e'.symm
  rw [show X.heap[n₀]? = _ from hv] at ho; cases ho; cases hc
theorem RowAt.alloc {n₀ : Nat} {ss : List (Int × Int × Int)} {W : World} (h : RowAt n₀ ss W) (o : Obj) : RowAt n₀ ss (W.alloc o) := (rowAt_own (β := Unit) n₀ (fun _ => ss)).alloc (s := ()) o h
set_option maxRecDepth 100000 in
set_option maxHeartbeats 2000000 in
theorem appendSeq (F : Fence) (n : Nat) (h31 : F.fn 31) (hro : F.round = none) (hn : 2 ≤ n) (g : Nat) (lb : Array Value) (hFg : F.fn g) (eg : ∀ args w, (callFunc g args).run Tryd.prog w = .ok (.enter g args) w)
    (S Sp : List (Int × Int × Int) → Prop) (N : Nat) (hN : N ≤ 100000) (w : World) (hseq : ∀ w', Below w.heap.size w w' → SeqStopsK F (n - 1) Tryd.prog g lb (fun x => #[encV x]) KeepsWalks S Sp N w') :
    CallsIn F n Tryd.prog 31 #[.slice none 0 0, .func (.func g) #[] lb] w fun e w' => ∃ (v : Value) (ss : List (Int × Int × Int)), e = .returned v ∧ S ss ∧ w'.ownsRow w.heap.size 31 3 v ss.length (ss.flatMap cellsK) ∧ OneRow w' v ∧ Below w.heap.size w w' := by
  have h1 : 1 ≤ n := by omega
  refine callsIn_of_wp_marks Tryd.func31 rfl h31 ?_ hro
  simp only [Tryd.ntmps31, List.size_toArray, List.length_cons, List.length_nil, Nat.reduceAdd, Nat.reduceSub, Array.replicate_succ, Array.replicate_zero, List.push_toArray, List.append_toArray, List.nil_append, List.cons_append]
  gi_wp2
  have hB0 : Below w.heap.size w (w.alloc (.cells #[.slice none 0 0] 35)) := (Below.refl _ w).alloc (Nat.le_refl _) _
  refine rangeFunc_box hro h1 (gf := g) (lb := lb) rfl hFg eg (hseq _ hB0) (fun _ => rfl)
    (fun pre W => (RowAt w.heap.size pre W ∧ pre.length ≤ N) ∧ Below w.heap.size w W)
    (OwnFrom.and (Own.from (fun s A B row hs hg hr => ⟨rowAt_own w.heap.size (fun (pre : List (Int × Int × Int)) => pre) s A B row hs.1 hg hr, hs.2⟩) _) (ownFrom_below (Nat.le_refl _) (by simp)))
    ⟨⟨⟨_, Boxed.new w 35 _, World.ownsRow_nil _ _ _ _, OneRow.nil _⟩, Nat.zero_le _⟩, hB0⟩
    (fun q W => ((RowAt w.heap.size q.1 W ∧ q.1.length < N) ∧ Below w.heap.size w W) ∧
      ∃ V, W.heap[V]? = some (.cells #[.int .i64 q.2.1.1, .int .i64 q.2.1.2.1, .int .i64 q.2.1.2.2] 31 (0, 0)) ∧ q.2.2 = { tmps := #[.slice none 0 0, .func (.func g) #[] lb, .pointer (some ⟨w.heap.size, 0, none⟩), undef, .slice none 0 0, .pointer (some ⟨V, 0, none⟩), .func (.func g) #[] lb, encV q.2.1, undef, undef, undef, undef, undef], defers := [] })
    (OwnFrom.and (OwnFrom.and (Own.from (fun s A B row hs hg hr => ⟨rowAt_own w.heap.size (fun (q : List (Int × Int × Int) × (Int × Int × Int) × Act) => q.1) s A B row hs.1 hg hr, hs.2⟩) _) (ownFrom_below (Nat.le_refl _) (by simp)))
      (fun s A B row hs hg hr => by
        obtain ⟨V, hV, he⟩ := hs
        exact ⟨V, (grownBy_keeps_cells hg (fun r e => (hr r e).2) hV rfl).trans hV, he⟩)) ?assign ?body ?done
  case assign =>
    rintro l pre x W ⟨⟨hv, _⟩, hB⟩ hlen
    unfold encV
    gi_wp2_with (rw [Oper.semAt_eq _ _ _ (fun c h => by cases h)]; go_simp; try go_bits)
    exact ⟨KeepsOthers.alloc _ _, ⟨⟨hv.alloc _, hlen⟩, hB.alloc hB.size _⟩, W.heap.size, World.alloc_heap_new W _, rfl⟩
  case body =>
    rintro l pre x a₁ W ⟨⟨⟨⟨v, hv, hr, ho⟩, hlen⟩, hB⟩, V, hV, he⟩
    replace hr : W.ownsRow w.heap.size 31 3 v pre.length (pre.flatMap cellsK) := hr
    replace hlen : pre.length < N := hlen
    replace hV : W.heap[V]? = some (.cells #[.int .i64 x.1, .int .i64 x.2.1, .int .i64 x.2.2] 31 (0, 0)) := hV
    replace he : a₁ = { tmps := #[.slice none 0 0, .func (.func g) #[] lb, .pointer (some ⟨w.heap.size, 0, none⟩), undef, .slice none 0 0, .pointer (some ⟨V, 0, none⟩), .func (.func g) #[] lb, encV x, undef, undef, undef, undef, undef], defers := [] } := he
    subst he
    have hc := hv.cell
    have hf := hv.frozen
    have v0 : W.cell? ⟨V, 0, none⟩ = some (.int .i64 x.1) := by simp [World.cell?, hV]
    have v1 : W.cell? ⟨V, 1, none⟩ = some (.int .i64 x.2.1) := by simp [World.cell?, hV]
    have v2 : W.cell? ⟨V, 2, none⟩ = some (.int .i64 x.2.2) := by simp [World.cell?, hV]
    have hne0 : v.ownBlock = none ∨ v.ownBlock ≠ (none : Option Nat) := by
      cases v.ownBlock with
      | none => exact .inl rfl
      | some _ => exact .inr (by simp)
    gi_wp2_with (first
      | (gi_at_builtin; refine append_raw _ rfl _ _ 35 rfl w.heap.size 31 Tryd.t31 (.agg #[.int .i64 0, .int .i64 0, .int .i64 0]) 3 24 Tryd.underlying35 Tryd.type31 rfl rfl rfl rfl (by decide) (by decide) _ _ _ rfl (hr.alloc _) (ho.kept hr (World.grownBy_alloc W _ none) hne0) ⟨W.heap.size, 0, none⟩ 1 1 (by decide) (cellsK x) rfl rfl (cell_three W x) (by simp [cellsK, Value.oneCell']) (by have : maxLen = 9223372036854775807 := rfl; omega) (by omega) (by have := hB.size; simp; omega) ?_; intro v' w3 hown' hg3 ho3
         obtain ⟨a1, a2, a3, a4, a5⟩ := Boxed.appended hv (by decide) hr hB.size (Nat.le_refl _) hown' hg3
         have ho4 := ho3.kept hown' (grownBy_setCell' w3 w.heap.size v') (.inr (a1.not_row (by decide) hown').symm)
         obtain ⟨g', cap', rfl⟩ := ownsRow_succ hown'
         have hc3 := a1.cell
         have hf3 := a1.frozen
         go_frame)
      | (rw [Oper.semAt_eq _ _ _ (fun c h => by cases h)]; go_simp; try go_bits))
    refine ⟨⟨⟨_, a2, ?_, ho4⟩, ?_⟩, hB.trans a5⟩
    · simpa using a3
    · omega
  case done =>
    rintro D ys W hD hSy ⟨⟨⟨v, hv, hr, ho⟩, hlen⟩, hB⟩ hK
    have hc := hv.cell
    have hf := hv.frozen
    gi_wp2
    refine ⟨by simp, .inl ⟨_, _, rfl, run_takeDeferred hK, ?_⟩⟩
    have hr2 := ownsRow_putObj hr (.deferred none) hK rfl
    have hne : v.ownBlock = none ∨ v.ownBlock ≠ some D := by
      rcases hr.2 with ⟨rfl, _⟩ | ⟨g2, cap, cur, rfl, _, hgb, _⟩
      · exact .inl rfl
      · refine .inr fun e' => ?_
        obtain rfl : g2 = D := by simpa [Value.ownBlock] using e'
        rw [hgb] at hK; cases hK
    exact ⟨_, results_tmp rfl _ _ _, v, ys, rfl, hSy, hr2, ho.kept hr (grownBy_putObj' W D _) hne, hB.trans (belowK_b (w := w) (Nat.le_refl _) W D _ _ (by simp at hD; omega) hK rfl rfl)⟩
set_option maxHeartbeats 1000000 in
/-- slices.Collect. -/
theorem collect (F : Fence) (n : Nat) (h20 : F.fn 20) (h31 : F.fn 31) (hro : F.round = none) (hn : 3 ≤ n) (g : Nat) (lb : Array Value) (hFg : F.fn g) (eg : ∀ args w, (callFunc g args).run Tryd.prog w = .ok (.enter g args) w)
    (S Sp : List (Int × Int × Int) → Prop) (N : Nat) (hN : N ≤ 100000) (w : World) (hseq : ∀ w', Below w.heap.size w w' → SeqStopsK F (n - 1 - 1) Tryd.prog g lb (fun x => #[encV x]) KeepsWalks S Sp N w') :
    CallsIn F n Tryd.prog 20 #[.func (.func g) #[] lb] w fun e w' => ∃ (v : Value) (ss : List (Int × Int × Int)), e = .returned v ∧ S ss ∧ w'.ownsRow w.heap.size 31 3 v ss.length (ss.flatMap cellsK) ∧ OneRow w' v ∧ Below w.heap.size w w' := by
  have h1 : 1 ≤ n := by omega
  have e31 : ∀ args w, (callFunc 31 args).run Tryd.prog w = .ok (.enter 31 args) w := enters_of Tryd.func31 (by kernel_rfl) rfl
  refine callsIn_of_wp Tryd.func20 rfl h20 ?_ hro
  simp only [Tryd.ntmps20, List.size_toArray, List.length_cons, List.length_nil, Nat.reduceAdd, Nat.reduceSub, Array.replicate_succ, Array.replicate_zero, List.push_toArray, List.append_toArray, List.nil_append, List.cons_append]
  gi_wp2_with (gi_at_call 31; refine (appendSeq F (n - 1) h31 hro (by omega) g lb hFg eg S Sp N hN w hseq).mono ?_; rintro e w' ⟨v, ss, rfl, hS, hrow, ho, hb⟩)
  go_ret
  exact ⟨v, ss, rfl, hS, hrow, ho, hb⟩
end Go.Proofs.YtgadgajhahfabaaDoor
/- Seat of TraceLooks: errors told apart. -/
namespace Go.Proofs.YtgadgajhahfabaaDoor
open Go.Pv Go.RowKit
/-- The error of variable g. -/
abbrev errD (bs : Nat → Addr) (g : Nat) : DV := .iface 114 (.raw (.pointer (some (bs g))))
/-- Each has a block of its own. -/
def Apart (bs : Nat → Addr) : Prop := ∀ i j, i < 13 → j < 13 → bs i = bs j → i = j
theorem pinned {bs : Nat → Addr} {g : Nat} (h : g < 13) : (G0 bs (bs g).block).isSome = true := by
  unfold G0
  split
  · rfl
  · have : ((List.range 13).any fun k => Nat.beq (bs k).block (bs g).block) = true := List.any_eq_true.2 ⟨g, List.mem_range.2 h, Nat.beq_refl _⟩
    rw [this]
    rfl
def ordE : List Nat := [4, 5, 0, 6, 7, 8, 1, 9, 2, 10, 3, 11, 12]
def posE (g : Nat) : Nat := ordE.findIdx fun x => x == g
def codeE (g : Nat) : Int := 101 + (posE g : Int)
abbrev faultV (c : Int) (p : Bool) (q : Int) : AV := .agg [.d (.int .i64 c), .d (.bool p), .d (.int .i64 q)]
set_option maxRecDepth 100000 in
theorem none22 {bs : Nat → Addr} : Contract Tryd.prog (G0 bs) 17 [] [] (fun r t => r = faultV 0 false 0 ∧ t = []) := by
  refine run17 0 [] rfl rfl ?_
  conv => whnf
  exact ⟨rfl, rfl⟩
set_option maxRecDepth 100000 in
theorem bare25 {bs : Nat → Addr} (c : Int) : Contract Tryd.prog (G0 bs) 25 [.d (.int .i64 c)] [] (fun r t => r = faultV c false 0 ∧ t = []) := by
  refine run25 0 [] rfl rfl ?_
  conv => whnf
  exact ⟨rfl, rfl⟩
set_option maxRecDepth 100000 in
theorem placed11 {bs : Nat → Addr} (c p : Int) (h : c ≠ 0) : Contract Tryd.prog (G0 bs) 10 [.d (.int .i64 c), .d (.int .i64 p)] [] (fun r t => r = faultV c true p ∧ t = []) := by
  refine run10 0 [] rfl rfl ?_
  conv => whnf
  refine bcase_intro (fun h1 => ?_) (fun h1 => ?_) <;> conv => whnf
  · exact absurd (by simpa using h1) h
  · exact ⟨rfl, rfl⟩
def sameF (c : Int) (p : Bool) (q : Int) (c' : Int) (p' : Bool) (q' : Int) : Bool := bif (bif c == c' then p == p' else false) then q == q' else false
set_option maxRecDepth 100000 in
theorem same23 {bs : Nat → Addr} (c : Int) (p : Bool) (q : Int) (c' : Int) (p' : Bool) (q' : Int) : Contract Tryd.prog (G0 bs) 15 [faultV c p q, faultV c' p' q'] [] (fun r t => r = .d (.bool (sameF c p q c' p' q')) ∧ t = []) := by
  refine run15 0 [] rfl rfl ?_
  conv => whnf
  exact ⟨rfl, rfl⟩
set_option maxRecDepth 100000 in
theorem alike34 {bs : Nat → Addr} (ha : Apart bs) (g h : Nat) (hg : g < 13) (hh : h < 13) : Contract Tryd.prog (G0 bs) 36 [.d (errD bs g), .d (errD bs h)] [] (fun r t => r = .d (.bool (decide (g = h))) ∧ t = []) := by
  refine run36 0 [] rfl rfl ?_
  conv => whnf
  refine ⟨decide (g = h), ⟨?_, by kernel_rfl⟩, ?_⟩
  · by_cases e : g = h
    · subst e; exact .inl ⟨by simp, rfl⟩
    · exact .inr ⟨by simp [e], fun q => e (ha g h hg hh q), pinned hg, pinned hh⟩
  conv => whnf
  exact ⟨rfl, rfl⟩
def rowsErr (bs : Nat → Addr) : List (List DV) := ordE.map fun g => [errD bs g]
set_option maxRecDepth 100000 in
theorem sentinels33 {bs : Nat → Addr} : Contract Tryd.prog (G0 bs) 35 [] [] (fun r t => r = .d (.list 1 (rowsErr bs)) ∧ t = []) := by
  refine run35 0 [] rfl rfl ?_
  conv => whnf
  exact ⟨rfl, rfl⟩
theorem ordE_pos {g : Nat} (h : g < 13) : posE g < 13 ∧ ordE[posE g]? = some g := by
  have : ∀ g : Fin 13, posE g < 13 ∧ ordE[posE g]? = some g.1 := by decide
  exact this ⟨g, h⟩
theorem ordE_lt {i x : Nat} (h : ordE[i]? = some x) : x < 13 ∧ posE x = i := by
  have hi := (List.getElem?_eq_some_iff.1 h).1
  have : ∀ i : Fin 13, ∀ x, ordE[i.1]? = some x → x < 13 ∧ posE x = i.1 := by decide
  exact this ⟨i, hi⟩ x h
set_option maxRecDepth 100000 in
theorem sentinel26 {bs : Nat → Addr} (ha : Apart bs) (g : Nat) (hg : g < 13) : Contract Tryd.prog (G0 bs) 26 [.d (errD bs g)] [] (fun r t => r = .d (.int .i64 (codeE g)) ∧ t = []) := by
  obtain ⟨hp, hgp⟩ := ordE_pos hg
  refine run26 0 [] rfl rfl ?_
  conv => whnf
  refine .data [] _ ⟨WkL.refl _, rfl, sentinels33⟩ ?_
  conv => whnf
  refine StopG.rounds wk26 [] [0, 3, 4] (fun m env s => ∃ i : Nat, i ≤ posE g ∧ m = 13 - i ∧ env = [(0, .d (errD bs g)), (3, .d (.list 1 (rowsErr bs))), (4, .d (.int .i64 (i : Int)))] ∧ s = []) rfl ?_ ?_
  · conv => whnf
    exact ⟨_, 0, Nat.zero_le _, rfl, rfl, rfl⟩
  rintro m env s ⟨i, hi, rfl, rfl, rfl⟩
  have hlen : (rowsErr bs).length = 13 := rfl
  conv => whnf
  refine bcase_intro (fun h => ?_) (fun h => ?_) <;> conv => whnf
  · have hil := lt_of h
    rw [hlen] at hil
    obtain ⟨x, hx⟩ : ∃ x, ordE[i]? = some x := ⟨_, List.getElem?_eq_getElem hil⟩
    obtain ⟨hx13, hxi⟩ := ordE_lt hx
    refine ⟨[errD bs x], ⟨by omega, by show (rowsErr bs)[i]? = _; rw [rowsErr, List.getElem?_map, hx]; rfl⟩, ?_⟩
    conv => whnf
    refine .scal [.d (errD bs g), .d (errD bs x)] _ ⟨.refl _, rfl, alike34 ha g x hg hx13⟩ ?_
    conv => whnf
    refine bcase_intro (fun h2 => ?_) (fun h2 => ?_) <;> conv => whnf
    · have e := of_decide_eq_true h2
      subst e
      refine ⟨?_, rfl⟩
      rw [wrap_id (by omega) (by omega)]
      show AV.d (.int .i64 (101 + (i : Int))) = _
      rw [codeE, hxi]
    · have e := of_decide_eq_false h2
      rw [succ_i hil (by omega)]
      refine ⟨_, by omega, i + 1, ?_, rfl, rfl, rfl⟩
      have : i ≠ posE g := fun q => e (by rw [q, hgp] at hx; exact Option.some.inj hx)
      omega
  · have hil := ge_of h
    rw [hlen] at hil
    omega
/-- What a check says: nothing, or where, and which. -/
abbrev errA (bs : Nat → Addr) : Option (Int × Nat) → AV
  | none => .d (.raw .nilIface)
  | some (p, g) => .ifc 70 (.d (.ptr [.int .i64 p, errD bs g] 0))
theorem codeE_ne (g : Nat) : codeE g ≠ 0 := by unfold codeE; omega
abbrev faultA : Option (Int × Nat) → AV
  | none => faultV 0 false 0
  | some (p, g) => faultV (codeE g) true p
set_option maxRecDepth 100000 in
theorem fault14 {bs : Nat → Addr} (ha : Apart bs) (r : Option (Int × Nat)) (hr : ∀ p g, r = some (p, g) → g < 13) : Contract Tryd.prog (G0 bs) 16 [errA bs r] [] (fun x t => x = faultA r ∧ t = []) := by
  cases r with
  | none =>
    refine run16 0 [] rfl rfl ?_
    conv => whnf
    refine .data [] _ ⟨WkL.refl _, rfl, none22⟩ ?_
    conv => whnf
    exact ⟨rfl, rfl⟩
  | some y =>
    obtain ⟨p, g⟩ := y
    have hg := hr p g rfl
    refine run16 0 [] rfl rfl ?_
    conv => whnf
    refine .scal [.d (errD bs g)] _ ⟨.refl _, rfl, sentinel26 ha g hg⟩ ?_
    conv => whnf
    refine .data [.d (.int .i64 (codeE g)), .d (.int .i64 p)] _ ⟨WkL.refl _, rfl, placed11 _ _ (codeE_ne g)⟩ ?_
    conv => whnf
    exact ⟨rfl, rfl⟩
def sameR : Option (Int × Nat) → Int → Bool → Int → Bool
  | none => sameF 0 false 0
  | some (p, g) => sameF (codeE g) true p
set_option maxRecDepth 100000 in
theorem same12 {bs : Nat → Addr} (ha : Apart bs) (r : Option (Int × Nat)) (hr : ∀ p g, r = some (p, g) → g < 13) (c : Int) (p : Bool) (q : Int) : Contract Tryd.prog (G0 bs) 9 [errA bs r, faultV c p q] [] (fun x t => x = .d (.bool (sameR r c p q)) ∧ t = []) := by
  refine run9 0 [] rfl rfl ?_
  cases r with
  | none =>
    conv => whnf
    refine .data [errA bs none] _ ⟨WkL.refl _, rfl, fault14 ha none hr⟩ ?_
    conv => whnf
    refine .scal [faultV 0 false 0, faultV c p q] _ ⟨.refl _, rfl, same23 _ _ _ _ _ _⟩ ?_
    conv => whnf
    exact ⟨rfl, rfl⟩
  | some y =>
    obtain ⟨p1, g⟩ := y
    conv => whnf
    refine .data [errA bs (some (p1, g))] _ ⟨WkL.refl _, rfl, fault14 ha (some (p1, g)) hr⟩ ?_
    conv => whnf
    refine .scal [faultV (codeE g) true p1, faultV c p q] _ ⟨.refl _, rfl, same23 _ _ _ _ _ _⟩ ?_
    conv => whnf
    exact ⟨rfl, rfl⟩
end Go.Proofs.YtgadgajhahfabaaDoor
/- Seat of TraceLooks: what may be done, as plain laws; how a checker lies in memory. -/
namespace Go.Proofs.YtgadgajhahfabaaDoor
open Go.Pv Go.RowKit
abbrev Kl := Int × Int × Int
abbrev Ep := Int × Int
abbrev At := Kl × Ep
structure Cr where
  op : Bool
  bo : Bool
  an : Bool
  fl : Int
  wh : Int
  la : Int
  le : Ep
  cm : List Kl
structure Ck where
  cars : List Cr
  fo : List Ep
  aw : List At
  cl : List (At × Int)
structure Ev where
  kd : Int
  ca : Int
  lt : Kl
  ep : Ep
  fl : Int
  di : Int
def dxK (k : Kl) : DX := .agg [.int .i64 k.1, .int .i64 k.2.1, .int .i64 k.2.2]
def dxE (e : Ep) : DX := .agg [.int .i64 e.1, .int .i64 e.2]
def dxA (a : At) : DX := .agg [.int .i64 a.1.1, .int .i64 a.1.2.1, .int .i64 a.1.2.2, .int .i64 a.2.1, .int .i64 a.2.2]
def one1 {α : Type} (_ : α) : DX := .one (.int .i64 1)
def whoW (a : At × Int) : DX := .one (.int .i64 a.2)
theorem dxK_inj : ∀ a b, dxK a = dxK b → a = b := fun a b h => by
  simp [dxK] at h
  exact Prod.ext h.1 (Prod.ext h.2.1 h.2.2)
theorem dxE_inj : ∀ a b, dxE a = dxE b → a = b := fun a b h => by
  simp [dxE] at h
  exact Prod.ext h.1 h.2
theorem dxA_inj : ∀ a b, dxA a = dxA b → a = b := fun a b h => by
  simp [dxA] at h
  exact Prod.ext (Prod.ext h.1 (Prod.ext h.2.1 h.2.2.1)) (Prod.ext h.2.2.2.1 h.2.2.2.2)
abbrev kE (e : Ep) : Ep := e
abbrev kK (k : Kl) : Kl := k
abbrev kA (a : At) : At := a
abbrev kW (a : At × Int) : At := a.1
abbrev encK (l : List Kl) : List (DX × DX) := encM kK dxK one1 l
abbrev encE (l : List Ep) : List (DX × DX) := encM kE dxE one1 l
abbrev encA (l : List At) : List (DX × DX) := encM kA dxA one1 l
abbrev encW (l : List (At × Int)) : List (DX × DX) := encM kW dxA whoW l
def goodK : Bool × List IntKind := (true, [.i64, .i64, .i64])
def goodE : Bool × List IntKind := (true, [.i64, .i64])
def goodA : Bool × List IntKind := (true, [.i64, .i64, .i64, .i64, .i64])
theorem dxK_good (k : Kl) : kgood goodK (dxK k) = true := by simp [kgood, goodK, dxK, kmatch]
theorem dxE_good (k : Ep) : kgood goodE (dxE k) = true := by simp [kgood, goodE, dxE, kmatch]
theorem dxA_good (k : At) : kgood goodA (dxA k) = true := by simp [kgood, goodA, dxA, kmatch]
theorem heldE : Tryd.prog.stoodInHeld 27 = false := by kernel_rfl
theorem heldK : heldS Tryd.prog T 8 31 = true := by kernel_rfl
theorem heldA : heldS Tryd.prog T 8 83 = true := by kernel_rfl
/-- How often a key is there, as the maps say: 0 or 1. -/
def isIn {α : Type} (o : Option α) : Int := match o with
  | some _ => 1
  | none => 0
def whoOf (o : Option (At × Int)) : Int := match o with
  | some a => a.2
  | none => 0
def lessE (a b : Ep) : Bool := bif decide (a.1 < b.1) then true else bif a.1 == b.1 then decide (a.2 < b.2) else false
def sameE (a b : Ep) : Bool := bif a.1 == b.1 then a.2 == b.2 else false
def ringX (c : Cr) (fo : List Ep) (e : Ev) : Except Nat (Cr × List Ep) :=
  bif (bif !lessE c.le e.ep then true else bif c.an then decide (e.ep.1 ≤ c.le.1) else false) then .error 9
  else bif (bif e.kd == 3 then decide (isIn (aget kE fo e.ep) > 0) else false) then .error 3
  else .ok ({ c with le := e.ep, an := false, cm := [] }, bif e.kd == 3 then aput kE fo e.ep else fo)
def claimX (c : Cr) (cl : List (At × Int)) (e : Ev) : Except Nat (Cr × List (At × Int)) :=
  bif !sameE e.ep c.le then .error 9
  else bif (bif (bif decide (whoOf (aget kW cl (e.lt, e.ep)) > 0) then whoOf (aget kW cl (e.lt, e.ep)) != IntKind.wrap .i64 (e.ca + 1) else false) then true else decide (isIn (aget kK c.cm e.lt) > 0)) then .error 3
  else .ok ({ c with cm := aput kK c.cm e.lt }, aput kW cl ((e.lt, e.ep), IntKind.wrap .i64 (e.ca + 1)))
def clearX (c : Cr) (e : Ev) : Except Nat Cr :=
  bif !c.op then .error 2
  else bif (bif e.fl != c.wh then true else e.lt.1 != c.wh) then .error 10
  else bif e.lt.2.1 != c.la then .error 9
  else bif isIn (aget kK c.cm e.lt) == 0 then .error 8
  else .ok { c with cm := adel kK c.cm e.lt }
def moveX (floors : Int) (c : Cr) (e : Ev) : Except Nat Cr :=
  bif c.op != (e.kd == 6) then .error 2
  else bif (bif (bif e.kd == 6 then e.fl != c.wh else false) then true else bif e.kd != 6 then (bif decide (e.fl < 0) then true else decide (e.fl ≥ floors)) else false) then .error 10
  else bif (bif (bif e.kd == 5 then (bif decide (e.di < -1) then true else decide (e.di > 1)) else false) then true else bif (bif e.kd == 7 then e.di != 1 else false) then e.di != -1 else false) then .error 9
  else .ok (bif e.kd == 5 then { c with op := true, fl := e.fl, wh := e.fl, la := e.di } else { c with op := false, fl := e.fl })
theorem ringX_cm {c c' : Cr} {fo fo' : List Ep} {e : Ev} (h : ringX c fo e = .ok (c', fo')) : c'.cm = [] := by
  unfold ringX at h
  cases h1 : (bif !lessE c.le e.ep then true else bif c.an then decide (e.ep.1 ≤ c.le.1) else false) <;> rw [h1] at h
  · cases h2 : (bif e.kd == 3 then decide (isIn (aget kE fo e.ep) > 0) else false) <;> rw [h2] at h
    · cases h; rfl
    · cases h
  · cases h
/-- What car i's event comes to. -/
def carX (floors : Int) (k : Ck) (i : Nat) (c : Cr) (e : Ev) : Except Nat Ck :=
  bif e.kd == 9 then (bif c.op then .error 2 else .ok { k with cars := k.cars.set i { c with bo := true, an := true, cm := [] } })
  else bif (bif e.kd == 3 then true else e.kd == 4) then (match ringX c k.fo e with
    | .error g => .error g
    | .ok (c', fo) => .ok { k with cars := k.cars.set i c', fo := fo })
  else bif e.kd == 2 then (bif decide (isIn (aget kA k.aw (e.lt, e.ep)) > 0) then .error 3 else .ok { k with aw := aput kA k.aw (e.lt, e.ep) })
  else bif e.kd == 1 then (match claimX c k.cl e with
    | .error g => .error g
    | .ok (c', cl) => .ok { k with cars := k.cars.set i c', cl := cl })
  else bif e.kd == 8 then (match clearX c e with
    | .error g => .error g
    | .ok c' => .ok { k with cars := k.cars.set i c' })
  else bif e.kd == 10 then .ok { k with cars := k.cars.set i { c with cm := [] } }
  else bif (bif (bif e.kd == 5 then true else e.kd == 6) then true else e.kd == 7) then (match moveX floors c e with
    | .error g => .error g
    | .ok c' => .ok { k with cars := k.cars.set i c' })
  else .ok k
def eventX (floors : Int) (k : Ck) (e : Ev) : Except Nat Ck :=
  if e.kd < 1 ∨ e.kd > 11 then .error 1
  else if e.ca < 0 ∨ e.ca ≥ (k.cars.length : Int) then .error 0
  else match k.cars[e.ca.toNat]? with
    | some c => carX floors k e.ca.toNat c e
    | none => .error 0
/-- All of them, from the beginning. -/
def allX (floors : Int) : Ck → List Ev → Nat → Except (Nat × Nat) Ck
  | k, [], _ => .ok k
  | k, e :: r, i => match eventX floors k e with
    | .error g => .error (i, g)
    | .ok k' => allX floors k' r (i + 1)
/-- How it lies in memory. -/
abbrev iV (n : Int) : AV := .d (.int .i64 n)
abbrev bV (b : Bool) : AV := .d (.bool b)
abbrev evV (e : Ev) : AV := .agg [iV e.kd, iV e.ca, iV e.lt.1, iV e.lt.2.1, iV e.lt.2.2, iV e.ep.1, iV e.ep.2, iV e.fl, iV e.di]
abbrev carR (c : Cr) (id : Nat) : List AV := [bV c.op, bV c.bo, bV c.an, iV c.fl, iV c.wh, iV c.la, iV c.le.1, iV c.le.2, .mp (.g id)]
abbrev chk (h1 h2 h3 h4 : Int) (n : Nat) : AB := .cells [iV h1, iV h2, iV h3, iV h4, .slc (.g 1) 9 0 n n, .mp (.g 2), .mp (.g 3), .mp (.g 4)]
abbrev epV (e : Ep) : AV := .agg [iV e.1, iV e.2]
set_option maxRecDepth 100000 in
theorem less69 {bs : Nat → Addr} (a b : Ep) : Contract Tryd.prog (G0 bs) 37 [epV a, epV b] [] (fun r t => r = .d (.bool (lessE a b)) ∧ t = []) := by
  refine run37 0 [] rfl rfl ?_
  conv => whnf
  exact ⟨rfl, rfl⟩
structure Nds (k : Ck) : Prop where
  fo : (k.fo.map kE).Nodup
  aw : (k.aw.map kA).Nodup
  cl : (k.cl.map kW).Nodup
  cm : ∀ c ∈ k.cars, (c.cm.map kK).Nodup
end Go.Proofs.YtgadgajhahfabaaDoor
/- Seat of TraceLooks: the keys of a map, collected: what the call comes to. -/
namespace Go.Proofs.YtgadgajhahfabaaDoor
open Go.Pv Go.RowKit Go.Shelf
def rowK (e : Kl) : List DV := [.int .i64 e.1, .int .i64 e.2.1, .int .i64 e.2.2]
def rowsK (l : List Kl) : List (List DV) := l.map rowK
theorem rv_ints {M : Mp} {F : Nat → Prop} {w : World} {xs : List Int} {v : Value} (h : RV M F w (.agg (xs.map fun x => .d (.int .i64 x))) v) : v = .agg (xs.map (Value.int .i64)).toArray := by
  cases h with
  | agg _ vs hl h1 h =>
    congr 2
    refine List.ext_getElem? fun i => ?_
    rw [List.getElem?_map]
    cases hx : xs[i]? with
    | none =>
      rw [List.getElem?_eq_none (by rw [hl, List.length_map]; exact List.getElem?_eq_none_iff.1 hx)]; rfl
    | some x =>
      have hi := (List.getElem?_eq_some_iff.1 hx).1
      have hvi : vs[i]? = some (vs[i]'(by rw [hl, List.length_map]; exact hi)) := List.getElem?_eq_getElem _
      have h2 := h i (.d (.int .i64 x)) _ (by rw [List.getElem?_map, hx]; rfl) hvi
      rw [hvi]
      generalize vs[i]'(by rw [hl, List.length_map]; exact hi) = u at h2
      cases h2 with
      | d h2 => cases h2; rfl
theorem shape_below {w w' : World} (h : Below w.heap.size w w') {b : Nat} (hb : b < w.heap.size) : w'.shape? b = w.shape? b := by
  unfold World.shape?
  rw [h.block b hb]
theorem ext_below {w w' : World} (h : Below w.heap.size w w') {U : Nat → Prop} (hU : ∀ b, U b → b < w.heap.size) : Ext U w w' :=
  ⟨h.os, h.tape, h.output, h.size, fun b hb => h.block b (hU b hb), fun _ hb => shape_below h hb⟩
/-- Nothing that was told has turned. -/
theorem St.later {M : Mp} {F U : Nat → Prop} {L : List AB} {s : List (Nat × AB)} {w w' : World} (hS : St M F U L s w) (h : Below w.heap.size w w') : St M F U L s w' :=
  ⟨fun r ab b hr hm => (hS.rb r ab b hr hm).mono (.refl _) (fun _ h => h) (fun b hb => hS.FU b hb) (ext_below h hS.Ult) (fun hd => h.block b (RB.lt (hS.rb r ab b hr hm) hd)),
   hS.inj, hS.nU, hS.nd, hS.FU, fun b hb => Nat.lt_of_lt_of_le (hS.Ult b hb) h.size, hS.dom, hS.tot, hS.gdom⟩
/-- One block more is told. -/
theorem St.add {g : Nat → Option Nat} {F U : Nat → Prop} {s : List (Nat × AB)} {w : World} {B : Nat} (hS : St ⟨fun _ => none, g⟩ F U [] s w) (hUB : ∀ b, U b → b < B) (hgB : ∀ i ab b, (i, ab) ∈ s → ab ≠ .dead → g i = some b → b < B) {n b : Nat} {ab : AB} (hn : ∀ ab, (n, ab) ∉ s) (hb : B ≤ b)
    (hab : RB ⟨fun _ => none, fun i => if i = n then some b else g i⟩ F w b ab) : St ⟨fun _ => none, fun i => if i = n then some b else g i⟩ F U [] (s ++ [(n, ab)]) w := by
  have hgn := hS.gdom n hn
  have hgn : g n = none := hgn
  have hle : Mp.Le ⟨fun _ => none, g⟩ ⟨fun _ => none, fun i => if i = n then some b else g i⟩ := by
    intro r x hx
    cases r with
    | l k => cases hx
    | g i =>
      simp only [Mp.at_] at hx ⊢
      rw [if_neg (fun e => by rw [e, hgn] at hx; cases hx)]; exact hx
  have hc : ∀ i ab', (i, ab') ∈ s ++ [(n, ab)] → ((i, ab') ∈ s ∧ i ≠ n) ∨ (i = n ∧ ab' = ab) := by
    intro i ab' h
    rcases List.mem_append.1 h with h | h
    · exact .inl ⟨h, fun e => hn ab' (e ▸ h)⟩
    · cases List.mem_singleton.1 h; exact .inr ⟨rfl, rfl⟩
  refine ⟨fun r ab' x hr hm => ?_, fun r r' a1 a2 x h1 h2 d1 d2 m1 m2 => ?_, fun r a1 x h1 d1 m1 hu => ?_, ?_, hS.FU, hS.Ult, fun _ _ => rfl, fun i ab' h => ?_, fun i h => ?_⟩
  · cases r with
    | l k => cases hm
    | g i =>
      rcases hc i ab' hr with ⟨h1, h2⟩ | ⟨rfl, rfl⟩
      · simp only [Mp.at_, if_neg h2] at hm
        exact (hS.rb (.g i) ab' x h1 hm).mono (hle.sub (.g i)) (fun _ h => h) (fun b hb => hS.FU b hb) (.refl _ _) (fun _ => rfl)
      · simp only [Mp.at_] at hm
        cases hm
        exact hab.mono (.refl _) (fun _ h => h) (fun b hb => hS.FU b hb) (.refl _ _) (fun _ => rfl)
  · cases r with
    | l k => cases m1
    | g i =>
      cases r' with
      | l k => cases m2
      | g j =>
        rcases hc i a1 h1 with ⟨k1, q1⟩ | ⟨rfl, rfl⟩ <;> rcases hc j a2 h2 with ⟨k2, q2⟩ | ⟨rfl, rfl⟩
        · simp only [Mp.at_, if_neg q1] at m1
          simp only [Mp.at_, if_neg q2] at m2
          exact hS.inj (.g i) (.g j) a1 a2 x k1 k2 d1 d2 m1 m2
        · simp only [Mp.at_, if_neg q1] at m1
          simp only [Mp.at_] at m2
          cases m2
          have := hgB i a1 _ k1 d1 m1
          omega
        · simp only [Mp.at_, if_neg q2] at m2
          simp only [Mp.at_] at m1
          cases m1
          have := hgB j a2 _ k2 d2 m2
          omega
        · rfl
  · cases r with
    | l k => cases m1
    | g i =>
      rcases hc i a1 h1 with ⟨k1, q1⟩ | ⟨rfl, rfl⟩
      · simp only [Mp.at_, if_neg q1] at m1
        exact hS.nU (.g i) a1 x k1 d1 m1 hu
      · simp only [Mp.at_] at m1
        cases m1
        have := hUB _ hu
        omega
  · rw [List.map_append, List.nodup_append]
    refine ⟨hS.nd, by simp, fun x hx y hy => ?_⟩
    simp at hy
    subst hy
    obtain ⟨p, hp, rfl⟩ := List.mem_map.1 hx
    exact fun e => hn p.2 (e ▸ hp)
  · rcases hc i ab' h with ⟨h1, h2⟩ | ⟨rfl, _⟩
    · obtain ⟨x, hx⟩ := hS.tot i ab' h1
      exact ⟨x, by show (if i = n then some b else g i) = some x; rw [if_neg h2]; exact hx⟩
    · exact ⟨b, by show (if i = i then some b else g i) = some b; rw [if_pos rfl]⟩
  · have h1 : i ≠ n := fun e => h ab (by rw [e]; simp)
    show (if i = n then some b else g i) = none
    rw [if_neg h1]
    exact hS.gdom i fun ab' h2 => h ab' (List.mem_append_left _ h2)
theorem keys_of {M : Mp} {F : Nat → Prop} {w : World} {ents : Array MapEntry} {l : List Kl} (h2 : ents.size = (encK l).length)
    (h3 : ∀ (i : Nat) (e : MapEntry) (x : DX × DX), ents[i]? = some e → (encK l)[i]? = some x → RV M F w x.1.av e.key ∧ RV M F w x.2.av e.val) : ents.toList.map (·.key) = l.map encV := by
  refine List.ext_getElem? fun i => ?_
  rw [List.getElem?_map, List.getElem?_map]
  cases hx : l[i]? with
  | none =>
    have := List.getElem?_eq_none_iff.1 hx
    rw [List.getElem?_eq_none (by simp [encK, encM] at h2 ⊢; omega)]; rfl
  | some x =>
    have hi := (List.getElem?_eq_some_iff.1 hx).1
    have hlt : i < ents.size := by simp [encK, encM] at h2; omega
    have he : ents[i]? = some ents[i] := Array.getElem?_eq_getElem hlt
    have := (h3 i _ (dxK (kK x), one1 x) he (by simp [encK, encM, hx])).1
    have h4 := rv_ints (xs := [x.1, x.2.1, x.2.2]) this
    rw [Array.getElem?_toList, he]
    simp only [Option.map_some, h4]
    rfl
theorem borns_of {ents : Array MapEntry} (h5 : ∀ (i j : Nat) (e e' : MapEntry), ents[i]? = some e → ents[j]? = some e' → e.born = e'.born → i = j) : (ents.toList.map (·.born)).Nodup := by
  refine List.pairwise_iff_getElem.2 fun i j hi hj hij e => ?_
  simp only [List.length_map, Array.length_toList] at hi hj
  have := h5 i j _ _ (Array.getElem?_eq_getElem hi) (Array.getElem?_eq_getElem hj) (by simpa using e)
  omega
theorem perm_encV {a b : List Kl} (h : (a.map encV).Perm (b.map encV)) : a.Perm b := by
  obtain ⟨f, hf⟩ : ∃ f : Value → Kl, ∀ k, f (encV k) = k := ⟨fun v => match v with
    | .agg #[.int _ x, .int _ y, .int _ z] => (x, y, z)
    | _ => (0, 0, 0), fun k => rfl⟩
  have := h.map f
  simpa [List.map_map, Function.comp_def, hf] using this
theorem flat_get : ∀ (ss : List Kl) (i j : Nat), j < 3 → (ss.flatMap cellsK)[i * 3 + j]? = (ss[i]?).bind fun k => (cellsK k)[j]?
  | [], i, j, _ => by simp
  | k :: r, i, j, hj => by
    rw [List.flatMap_cons]
    cases i with
    | zero =>
      rw [List.getElem?_append_left (by simp [cellsK]; omega)]
      simp
    | succ i =>
      rw [List.getElem?_append_right (by simp [cellsK]; omega), show (i + 1) * 3 + j - (cellsK k).length = i * 3 + j from by simp [cellsK]; omega, flat_get r i j hj]
      simp
/-- The keys of a map, in some order, as a row of one's own. -/
theorem collectK {bs : Nat → Addr} (l : List Kl) (hl : l.length ≤ 100000) : Contract Tryd.prog (G0 bs) 20 [.fn 22 [.ref (.g 0) 0]] [(0, .cells [.mp (.g 1)]), (1, .dmap (encK l))] (fun r t => ∃ ss : List Kl, ss.Perm l ∧
    ((ss = [] ∧ r = .d .nil ∧ t = [(0, .cells [.mp (.g 1)]), (1, .dmap (encK l))]) ∨ ∃ c, ss.length ≤ c ∧ r = .slc (.g 2) 3 0 ss.length c ∧ t = [(0, .cells [.mp (.g 1)]), (1, .dmap (encK l)), (2, .row 3 (rowsK ss))])) := by
  refine ⟨enters_of Tryd.func20 (by kernel_rfl) rfl, fun g F U w vals hS hG hlv hv => ?_⟩
  obtain ⟨v, rfl⟩ : ∃ v, vals = [v] := by
    match vals, hlv with
    | [v], _ => exact ⟨v, rfl⟩
  have hrv := hv 0 _ v rfl rfl
  obtain ⟨B, hgB, rfl⟩ : ∃ B, g 0 = some B ∧ v = .func (.func 22) #[] #[.pointer (some ⟨B, 0, none⟩)] := by
    cases hrv with
    | fn _ _ vs hl h =>
      obtain ⟨u, rfl⟩ : ∃ u, vs = [u] := by
        match vs, hl with
        | [u], _ => exact ⟨u, rfl⟩
      have := h 0 _ u rfl rfl
      cases this with
      | ref _ _ b hb => exact ⟨b, hb, rfl⟩
  obtain ⟨arr, tt, hb1, hsz, hc1⟩ := hS.rb (.g 0) (.cells [.mp (.g 1)]) B (by simp [Here]) hgB
  obtain ⟨u, hu⟩ : ∃ u, arr[0]? = some u := ⟨_, Array.getElem?_eq_getElem (by simp at hsz; omega)⟩
  have hru := (hc1 0 _ u rfl hu).2
  obtain ⟨b, hgb, rfl⟩ : ∃ b, g 1 = some b ∧ u = .map (some b) := by
    cases hru with
    | mp _ b h => exact ⟨b, h, rfl⟩
  obtain ⟨ents, clock, hb, h2, h3, h4, h5⟩ := hS.rb (.g 1) (.dmap (encK l)) b (by simp [Here]) hgb
  have hvals := keys_of h2 h3
  have hlen : ents.size = l.length := by simpa [encK, encM] using h2
  have hm : w.cell? ⟨B, 0, none⟩ = some (.map (some b)) := by simp [World.cell?, hb1, hu]
  have hBl := (Array.getElem?_eq_some_iff.1 hb1).1
  have hnd := borns_of h5
  have hold : ∀ x ∈ ents.toList, x.born < clock := fun x hx => by
    obtain ⟨i, hi⟩ := List.mem_iff_getElem?.1 hx
    exact h4 i x (by simpa using hi)
  have hval : ∀ x ∈ ents.toList, ∃ k, x.key = encV k := fun x hx => by
    have : x.key ∈ ents.toList.map (·.key) := List.mem_map_of_mem hx
    rw [hvals] at this
    obtain ⟨k, _, hk⟩ := List.mem_map.1 this
    exact ⟨k, hk.symm⟩
  have e22 : ∀ args w, (callFunc 22 args).run Tryd.prog w = .ok (.enter 22 args) w := enters_of Tryd.func22 (by kernel_rfl) rfl
  have hco := collect Fence.wide 5 trivial trivial rfl (by decide) 22 #[.pointer (some ⟨B, 0, none⟩)] trivial e22 (fun ss => (ss.map encV).Perm (ents.toList.map (·.key))) (fun _ => True) ents.size (by omega) w
    (fun w' hB => keys_stops Fence.wide 3 trivial rfl (by decide) B b ents clock hold hval hnd w' (Nat.lt_of_lt_of_le hBl hB.size) ((hB.cell (p := ⟨B, 0, none⟩) hBl).trans hm) ((hB.block b (Array.getElem?_eq_some_iff.1 hb).1).trans hb))
  refine (callsIn_wide.1 hco).mono ?_
  rintro e w' ⟨v, ss, rfl, hp, hrow, hone, hBe⟩
  rw [hvals] at hp
  have hp := perm_encV hp
  have hS2 := St.later hS hBe
  have hUl := hS.Ult
  have hgl : ∀ i ab x, (i, ab) ∈ [(0, AB.cells [.mp (.g 1)]), (1, .dmap (encK l))] → ab ≠ .dead → g i = some x → x < w.heap.size := fun i ab x hi hd hx => RB.lt (hS.rb (.g i) ab x hi hx) hd
  rcases hrow.2 with ⟨rfl, h0⟩ | ⟨nb, cap, cur, rfl, hbase, hnb, hcap, hmax, hcur, htk⟩
  · have hss : ss = [] := List.eq_nil_of_length_eq_zero h0
    exact ⟨_, .d .nil, _, g, F, U, rfl, ⟨ss, hp, .inl ⟨hss, rfl, rfl⟩⟩, fun _ _ h => h, fun id ab h => .inl ⟨ab, h⟩, fun _ h => h, fun _ h => h, fun _ h => .inl h, ext_below hBe hUl, hS2, .d .nil⟩
  · have hRB : RB ⟨fun _ => none, fun i => if i = 2 then some nb else g i⟩ F w' nb (.row 3 (rowsK ss)) := by
      refine ⟨cur, 31, hnb, ?_, ?_, ?_, ?_⟩
      · rw [hcur]
        simp only [rowsK, List.length_map]
        exact Nat.mul_le_mul_right 3 hcap
      · intro i r hr
        simp only [rowsK, List.getElem?_map, Option.map_eq_some_iff] at hr
        obtain ⟨k, _, rfl⟩ := hr
        rfl
      · intro j v hv
        exact hone nb cur 31 (0, 0) (by simp [Value.ownBlock]) hnb v (Array.mem_toList_iff.2 (Array.mem_of_getElem? hv))
      · intro i r j x v hr hx hv
        simp only [rowsK, List.getElem?_map, Option.map_eq_some_iff] at hr
        obtain ⟨k, hk, rfl⟩ := hr
        have hi := (List.getElem?_eq_some_iff.1 hk).1
        have hj : j < 3 := by
          have := (List.getElem?_eq_some_iff.1 hx).1
          simpa [rowK] using this
        have h1 : (cur.toList.take (ss.length * 3))[i * 3 + j]? = some v := by
          rw [List.getElem?_take_of_lt (by omega), Array.getElem?_toList]; exact hv
        rw [htk, flat_get ss i j hj, hk] at h1
        match j, hj with
        | 0, _ => simp [cellsK] at h1; simp [rowK] at hx; subst h1; subst hx; exact .int _ _
        | 1, _ => simp [cellsK] at h1; simp [rowK] at hx; subst h1; subst hx; exact .int _ _
        | 2, _ => simp [cellsK] at h1; simp [rowK] at hx; subst h1; subst hx; exact .int _ _
    refine ⟨_, .slc (.g 2) 3 0 ss.length cap, _, fun i => if i = 2 then some nb else g i, F, U, rfl, ⟨ss, hp, .inr ⟨cap, hcap, rfl, rfl⟩⟩, fun i x hx => ?_, fun id ab h => ?_, fun _ h => h, fun _ h => h, fun _ h => .inl h, ext_below hBe hUl, ?_, ?_⟩
    · show (if i = 2 then some nb else g i) = some x
      have h2 : g 2 = none := hS.gdom 2 (by simp)
      rw [if_neg (fun e => by rw [e, h2] at hx; cases hx)]; exact hx
    · rcases List.mem_append.1 (show (id, ab) ∈ [(0, AB.cells [.mp (.g 1)]), (1, .dmap (encK l))] ++ [(2, .row 3 (rowsK ss))] from h) with h | h
      · exact .inl ⟨ab, h⟩
      · cases List.mem_singleton.1 h
        exact .inr (hS.gdom 2 (by simp))
    · exact St.add (B := w.heap.size) hS2 hUl hgl (by simp) hbase hRB
    · exact .slc (.g 2) 3 0 ss.length cap nb (by simp [Mp.at_]) hcap ⟨31, cap * 3, by simp [World.shape?, hnb, hcur], by omega⟩
end Go.Proofs.YtgadgajhahfabaaDoor
/- Seat of TraceLooks: rows of at most one latch are sorted. -/
namespace Go.Proofs.YtgadgajhahfabaaDoor
open Go.Pv Go.RowKit
variable {bs : Nat → Addr}
set_option maxRecDepth 100000 in
theorem len47_0 : Contract Tryd.prog (G0 bs) 47 [.d (.int .u64 0)] [] (fun r t => r = iV 0 ∧ t = []) := by
  refine run47 0 [] rfl rfl ?_
  conv => whnf
  refine ⟨0, ⟨by decide, rfl⟩, ?_⟩
  conv => whnf
  exact ⟨rfl, rfl⟩
set_option maxRecDepth 100000 in
theorem len33_0 : Contract Tryd.prog (G0 bs) 33 [.d (.int .u64 0)] [] (fun r t => r = iV 0 ∧ t = []) := by
  refine run33 0 [] rfl rfl ?_
  conv => whnf
  refine .data [.d (.int .u64 0)] _ ⟨WkL.refl _, rfl, len47_0⟩ ?_
  conv => whnf
  exact ⟨rfl, rfl⟩
set_option maxRecDepth 100000 in
theorem len47_1 : Contract Tryd.prog (G0 bs) 47 [.d (.int .u64 1)] [] (fun r t => r = iV 1 ∧ t = []) := by
  refine run47 0 [] rfl rfl ?_
  conv => whnf
  refine ⟨1, ⟨by decide, rfl⟩, ?_⟩
  conv => whnf
  exact ⟨rfl, rfl⟩
set_option maxRecDepth 100000 in
theorem len33_1 : Contract Tryd.prog (G0 bs) 33 [.d (.int .u64 1)] [] (fun r t => r = iV 1 ∧ t = []) := by
  refine run33 0 [] rfl rfl ?_
  conv => whnf
  refine .data [.d (.int .u64 1)] _ ⟨WkL.refl _, rfl, len47_1⟩ ?_
  conv => whnf
  exact ⟨rfl, rfl⟩
set_option maxRecDepth 100000 in
theorem ins38_nil  : Contract Tryd.prog (G0 bs) 38 [.d (.list 3 []), iV 0, iV 0, .fn 14 []] [] (fun r t => r = .tup [] ∧ t = []) := by
  refine run38 0 [] rfl rfl ?_
  conv => whnf
  refine StopG.rounds wk38 [] [0, 1, 2, 3, 8] (fun m env s => m = 0 ∧ env = [(0, .d (.list 3 [])), (1, iV 0), (2, iV 0), (3, .fn 14 []), (8, iV 1)] ∧ s = []) rfl ?_ ?_
  · conv => whnf
    exact ⟨_, rfl, rfl, rfl⟩
  rintro m env s ⟨rfl, rfl, rfl⟩
  conv => whnf
  exact ⟨rfl, rfl⟩
set_option maxRecDepth 100000 in
theorem pdq32_nil  : Contract Tryd.prog (G0 bs) 32 [.d (.list 3 []), iV 0, iV 0, iV 0, .fn 14 []] [] (fun r t => r = .tup [] ∧ t = []) := by
  refine run32 0 [] rfl rfl ?_
  conv => whnf
  refine StopG.rounds wk32 [] [0, 1, 2, 3, 4, 10, 11] (fun m env s => m = 0 ∧ env = [(0, .d (.list 3 [])), (1, iV 0), (2, iV 0), (3, iV 0), (4, .fn 14 []), (10, bV true), (11, bV true)] ∧ s = []) rfl ?_ ?_
  · conv => whnf
    exact ⟨_, rfl, rfl, rfl⟩
  rintro m env s ⟨rfl, rfl, rfl⟩
  conv => whnf
  refine .obj rfl ?_
  conv => whnf
  refine ⟨_, _, ⟨WkL.refl _, ins38_nil⟩, fun res s1 h => ?_⟩
  obtain ⟨rfl, rfl⟩ := h
  conv => whnf
  exact ⟨rfl, rfl⟩
set_option maxRecDepth 100000 in
theorem sort21_nil  : Contract Tryd.prog (G0 bs) 21 [.d (.list 3 []), .fn 14 []] [] (fun r t => r = .tup [] ∧ t = []) := by
  refine run21 0 [] rfl rfl ?_
  conv => whnf
  refine .data [.d (.int .u64 0)] _ ⟨WkL.refl _, rfl, len33_0⟩ ?_
  conv => whnf
  refine .obj rfl ?_
  conv => whnf
  refine ⟨_, _, ⟨WkL.refl _, pdq32_nil⟩, fun res s1 h => ?_⟩
  obtain ⟨rfl, rfl⟩ := h
  conv => whnf
  exact ⟨rfl, rfl⟩
set_option maxRecDepth 100000 in
theorem ins38_one {c : Nat} {rows : List (List DV)} : Contract Tryd.prog (G0 bs) 38 [.slc (.g 0) 3 0 1 c, iV 0, iV 1, .fn 14 []] [(0, .row 3 rows)] (fun r t => r = .tup [] ∧ t = [(0, .row 3 rows)]) := by
  refine run38 1 [] rfl rfl ?_
  conv => whnf
  refine StopG.rounds wk38 [] [0, 1, 2, 3, 8] (fun m env s => m = 0 ∧ env = [(0, .slc (.g 0) 3 0 1 c), (1, iV 0), (2, iV 1), (3, .fn 14 []), (8, iV 1)] ∧ s = [(0, .row 3 rows)]) rfl ?_ ?_
  · conv => whnf
    exact ⟨_, rfl, rfl, rfl⟩
  rintro m env s ⟨rfl, rfl, rfl⟩
  conv => whnf
  exact ⟨rfl, rfl⟩
set_option maxRecDepth 100000 in
theorem pdq32_one {c : Nat} {rows : List (List DV)} : Contract Tryd.prog (G0 bs) 32 [.slc (.g 0) 3 0 1 c, iV 0, iV 1, iV 1, .fn 14 []] [(0, .row 3 rows)] (fun r t => r = .tup [] ∧ t = [(0, .row 3 rows)]) := by
  refine run32 1 [] rfl rfl ?_
  conv => whnf
  refine StopG.rounds wk32 [] [0, 1, 2, 3, 4, 10, 11] (fun m env s => m = 0 ∧ env = [(0, .slc (.g 0) 3 0 1 c), (1, iV 0), (2, iV 1), (3, iV 1), (4, .fn 14 []), (10, bV true), (11, bV true)] ∧ s = [(0, .row 3 rows)]) rfl ?_ ?_
  · conv => whnf
    exact ⟨_, rfl, rfl, rfl⟩
  rintro m env s ⟨rfl, rfl, rfl⟩
  conv => whnf
  refine .obj rfl ?_
  conv => whnf
  refine ⟨_, _, ⟨WkL.refl _, ins38_one⟩, fun res s1 h => ?_⟩
  obtain ⟨rfl, rfl⟩ := h
  conv => whnf
  exact ⟨rfl, rfl⟩
set_option maxRecDepth 100000 in
theorem sort21_one {c : Nat} {rows : List (List DV)} : Contract Tryd.prog (G0 bs) 21 [.slc (.g 0) 3 0 1 c, .fn 14 []] [(0, .row 3 rows)] (fun r t => r = .tup [] ∧ t = [(0, .row 3 rows)]) := by
  refine run21 1 [] rfl rfl ?_
  conv => whnf
  refine .data [.d (.int .u64 1)] _ ⟨WkL.refl _, rfl, len33_1⟩ ?_
  conv => whnf
  refine .obj rfl ?_
  conv => whnf
  refine ⟨_, _, ⟨WkL.refl _, pdq32_one⟩, fun res s1 h => ?_⟩
  obtain ⟨rfl, rfl⟩ := h
  conv => whnf
  exact ⟨rfl, rfl⟩
end Go.Proofs.YtgadgajhahfabaaDoor
/- Seat of TraceLooks: a map's keys, sorted, as data. -/
namespace Go.Proofs.YtgadgajhahfabaaDoor
open Go.Pv Go.RowKit Go.Shelf
variable {bs : Nat → Addr}
set_option maxRecDepth 100000 in
theorem keys13W (r : Option Nat) (w : World) : Calls Tryd.prog 13 #[.map r] w fun e w' => e = .returned (.func (.func 22) #[] #[.pointer (some ⟨w.heap.size, 0, none⟩)]) ∧ w' = w.alloc (.cells #[.map r] 52) := by
  go_enter Tryd.func13, Tryd.ntmps13
  go_wp2
  go_ret
  exact ⟨rfl, rfl⟩
theorem keys13N {L : List AB} {s : List (Nat × AB)} (id : Nat) : ReadsN Tryd.prog (G0 bs) L s 13 [.mp (.g id)] (.fn 22 [.ref (.l L.length) 0]) [.cells [.mp (.g id)]] := by
  refine ⟨enters_of Tryd.func13 (by kernel_rfl) rfl, fun M F U w vals hS hG hl hv => ?_⟩
  obtain ⟨v, rfl⟩ : ∃ v, vals = [v] := by
    match vals, hl with
    | [v], _ => exact ⟨v, rfl⟩
  have hrv := hv 0 _ v rfl rfl
  obtain ⟨b, hb, rfl⟩ : ∃ b, M.g id = some b ∧ v = .map (some b) := by
    cases hrv with
    | mp _ b h => exact ⟨b, h, rfl⟩
  refine (keys13W (some b) w).mono ?_
  rintro e w' ⟨rfl, rfl⟩
  refine ⟨_, _, F, U, rfl, grew_made (b0 := w.heap.size) hS ((Below.refl _ w).alloc (Nat.le_refl _) _) (Nat.le_refl _) (fun M' hM => ?_) (fun M' hM hl => ?_)⟩
  · refine ⟨#[.map (some b)], 52, heap_alloc_new w _, rfl, fun j x u hx hu => ?_⟩
    cases j with
    | zero => cases hx; cases hu; exact ⟨rfl, .mp _ b (hM (.g id) b hb)⟩
    | succ j => cases hx
  · refine .fn _ _ _ rfl fun j x u hx hu => ?_
    cases j with
    | zero => cases hx; cases hu; exact .ref _ _ _ hl
    | succ j => cases hx
theorem collect20 (B b : Nat) (ents : Array MapEntry) (clock : Nat) (l : List Kl) (hl : l.length ≤ 100000) (w : World) (hm : w.cell? ⟨B, 0, none⟩ = some (.map (some b))) (hBl : B < w.heap.size) (hb : w.heap[b]? = some (.map ents clock)) (hvals : ents.toList.map (·.key) = l.map encV) (hlen : ents.size = l.length)
    (hold : ∀ x ∈ ents.toList, x.born < clock) (hnd : (ents.toList.map (·.born)).Nodup) :
    Calls Tryd.prog 20 #[.func (.func 22) #[] #[.pointer (some ⟨B, 0, none⟩)]] w fun e w' => ∃ (v : Value) (ss : List Kl), e = .returned v ∧ ss.Perm l ∧ w'.ownsRow w.heap.size 31 3 v ss.length (ss.flatMap cellsK) ∧ OneRow w' v ∧ Below w.heap.size w w' := by
  have hval : ∀ x ∈ ents.toList, ∃ k, x.key = encV k := fun x hx => by
    have : x.key ∈ ents.toList.map (·.key) := List.mem_map_of_mem hx
    rw [hvals] at this
    obtain ⟨k, _, hk⟩ := List.mem_map.1 this
    exact ⟨k, hk.symm⟩
  have e22 : ∀ args w, (callFunc 22 args).run Tryd.prog w = .ok (.enter 22 args) w := enters_of Tryd.func22 (by kernel_rfl) rfl
  have hco := collect Fence.wide 5 trivial trivial rfl (by decide) 22 #[.pointer (some ⟨B, 0, none⟩)] trivial e22 (fun ss => (ss.map encV).Perm (ents.toList.map (·.key))) (fun _ => True) ents.size (by omega) w
    (fun w' hB => keys_stops Fence.wide 3 trivial rfl (by decide) B b ents clock hold hval hnd w' (Nat.lt_of_lt_of_le hBl hB.size) ((hB.cell (p := ⟨B, 0, none⟩) hBl).trans hm) ((hB.block b (Array.getElem?_eq_some_iff.1 hb).1).trans hb))
  refine (callsIn_wide.1 hco).mono ?_
  rintro e w' ⟨v, ss, rfl, hp, hrow, hone, hBe⟩
  rw [hvals] at hp
  exact ⟨v, ss, rfl, perm_encV hp, hrow, hone, hBe⟩
theorem sortNilW {F : Nat → Prop} (A : Option Addr) (c : Nat) (w : World) (hG : Glob (G0 bs) F w) (hF : ∀ b, F b → b < w.heap.size) : Calls Tryd.prog 21 #[.slice A 0 c, .func (.func 14) #[] #[]] w fun e w' => (∃ v, e = .returned v) ∧ Below w.heap.size w w' := by
  have hS : St ⟨fun _ => none, fun _ => none⟩ F (fun b => b < w.heap.size) [] [] w := by
    refine ⟨fun r ab b hr hm => ?_, fun r r' a1 a2 b h1 => ?_, fun r ab b hr => ?_, .nil, hF, fun _ h => h, fun _ _ => rfl, fun i ab h => by simp at h, fun _ _ => rfl⟩
    all_goals (cases r <;> simp [Here] at *)
  refine ((sort21_nil (bs := bs)).2 (fun _ => none) F (fun b => b < w.heap.size) w [.slice A 0 c, .func (.func 14) #[] #[]] hS hG rfl (fun j x v hx hv => ?_)).mono ?_
  · match j, hx, hv with
    | 0, hx, hv => cases hx; cases hv; exact .d (.empty _ _ _)
    | 1, hx, hv => cases hx; cases hv; exact .fn _ _ _ rfl (fun j x u h => by simp at h)
  · rintro e w' ⟨v, res, s', g', F', U', rfl, _, _, _, _, _, _, hX, _⟩
    exact ⟨⟨v, rfl⟩, hX.os, hX.tape, hX.output, hX.size, fun k hk => hX.block k hk⟩
theorem sortOneW {F : Nat → Prop} (w : World) (hG : Glob (G0 bs) F w) (B nb cap : Nat) (hF : ∀ b, F b → b < B) (hB : B ≤ w.heap.size) (hnb : B ≤ nb) (x : Kl) (cur : Array Value) (hcur : w.heap[nb]? = some (.cells cur 31 (0, 0))) (hcap : 1 ≤ cap) (hsz : cur.size = cap * 3)
    (hrow : RB ⟨fun _ => none, fun i => if i = 0 then some nb else none⟩ F w nb (.row 3 [rowK x])) :
    Calls Tryd.prog 21 #[.slice (some ⟨nb, 0, none⟩) 1 cap, .func (.func 14) #[] #[]] w fun e w' => (∃ v, e = .returned v) ∧ Below B w w' ∧ ∃ M : Mp, ∃ F' : Nat → Prop, RB M F' w' nb (.row 3 [rowK x]) := by
  have hlt : nb < w.heap.size := (Array.getElem?_eq_some_iff.1 hcur).1
  have hS : St ⟨fun _ => none, fun i => if i = 0 then some nb else none⟩ F (fun b => b < B) [] [(0, .row 3 [rowK x])] w := by
    have key : ∀ r ab b, Here [] [(0, AB.row 3 [rowK x])] r ab → Mp.at_ ⟨fun _ => none, fun i => if i = 0 then some nb else none⟩ r = some b → r = .g 0 ∧ ab = .row 3 [rowK x] ∧ b = nb := by
      intro r ab b hr hm
      cases r with
      | l k => cases hm
      | g i =>
        simp only [Here, List.mem_singleton, Prod.mk.injEq] at hr
        obtain ⟨rfl, rfl⟩ := hr
        simp [Mp.at_] at hm
        exact ⟨rfl, rfl, hm.symm⟩
    refine ⟨fun r ab b hr hm => ?_, fun r r' a1 a2 b h1 h2 _ _ m1 m2 => ?_, fun r ab b hr _ hm hu => ?_, by simp, hF, fun b hb => Nat.lt_of_lt_of_le hb hB, fun _ _ => rfl, fun i ab h => ?_, fun i h => ?_⟩
    · obtain ⟨rfl, rfl, rfl⟩ := key r ab b hr hm
      exact hrow
    · rw [(key r a1 b h1 m1).1, (key r' a2 b h2 m2).1]
    · obtain ⟨_, _, rfl⟩ := key r ab b hr hm
      exact absurd hu (by omega)
    · simp at h
      obtain ⟨rfl, rfl⟩ := h
      exact ⟨nb, rfl⟩
    · have : i ≠ 0 := fun e => h (.row 3 [rowK x]) (by simp [e])
      show (if i = 0 then some nb else none) = none
      rw [if_neg this]
  refine ((sort21_one (bs := bs) (c := cap) (rows := [rowK x])).2 (fun i => if i = 0 then some nb else none) F (fun b => b < B) w [.slice (some ⟨nb, 0, none⟩) 1 cap, .func (.func 14) #[] #[]] hS hG rfl (fun j y v hx hv => ?_)).mono ?_
  · match j, hx, hv with
    | 0, hx, hv => cases hx; cases hv; exact .slc (.g 0) 3 0 1 cap nb (by simp [Mp.at_]) hcap ⟨31, cap * 3, by simp [World.shape?, hcur, hsz], by omega⟩
    | 1, hx, hv => cases hx; cases hv; exact .fn _ _ _ rfl (fun j x u h => by simp at h)
  · rintro e w' ⟨v, res, s', g', F', U', rfl, ⟨rfl, rfl⟩, hg', _, _, _, _, hX, hS', _⟩
    exact ⟨⟨v, rfl⟩, ⟨hX.os, hX.tape, hX.output, hX.size, fun k hk => hX.block k hk⟩, _, F', hS'.rb (.g 0) _ nb (by simp [Here]) (hg' 0 nb rfl)⟩
theorem sortAnyW {F : Nat → Prop} (B : Nat) (w : World) (hG : Glob (G0 bs) F w) (hF : ∀ b, F b → b < B) (hB : B ≤ w.heap.size) (v : Value) (ss : List Kl) (hl : ss.length ≤ 1) (hrow : w.ownsRow B 31 3 v ss.length (ss.flatMap cellsK)) (hone : OneRow w v) :
    Calls Tryd.prog 21 #[v, .func (.func 14) #[] #[]] w fun e w' => (∃ r, e = .returned r) ∧ Below B w w' ∧
      ((ss = [] ∧ ∃ A c, v = .slice A 0 c) ∨ ∃ (x : Kl) (nb cap : Nat) (M : Mp) (F' : Nat → Prop), ss = [x] ∧ 1 ≤ cap ∧ v = .slice (some ⟨nb, 0, none⟩) 1 cap ∧ B ≤ nb ∧ nb < w'.heap.size ∧ RB M F' w' nb (.row 3 [rowK x])) := by
  have hFw : ∀ b, F b → b < w.heap.size := fun b hb => Nat.lt_of_lt_of_le (hF b hb) hB
  match ss, hl, hrow with
  | [], _, hrow =>
    obtain ⟨A, c, rfl⟩ : ∃ A c, v = .slice A 0 c := by
      rcases hrow.2 with ⟨rfl, _⟩ | ⟨nb, cap, cur, rfl, _⟩
      · exact ⟨_, _, rfl⟩
      · exact ⟨_, _, rfl⟩
    refine (sortNilW (bs := bs) A c w hG hFw).mono ?_
    rintro e w' ⟨hr, hb⟩
    exact ⟨hr, hb.mono hB, .inl ⟨rfl, A, c, rfl⟩⟩
  | [x], _, hrow =>
    rcases hrow.2 with ⟨_, h0⟩ | ⟨nb, cap, cur, rfl, hbase, hnb, hcap, hmax, hcur, htk⟩
    · simp at h0
    have hcap : 1 ≤ cap := hcap
    have hRB : RB ⟨fun _ => none, fun i => if i = 0 then some nb else none⟩ F w nb (.row 3 [rowK x]) := by
      refine ⟨cur, 31, hnb, by simp [hcur]; omega, fun i r hr => ?_, fun j v hv => ?_, fun i r j y v hr hx hv => ?_⟩
      · cases i with
        | zero => cases hr; rfl
        | succ i => cases hr
      · exact hone nb cur 31 (0, 0) (by simp [Value.ownBlock]) hnb v (Array.mem_toList_iff.2 (Array.mem_of_getElem? hv))
      · cases i with
        | succ i => cases hr
        | zero =>
          cases hr
          have hj : j < 3 := by
            have := (List.getElem?_eq_some_iff.1 hx).1
            simpa [rowK] using this
          have h1 : (cur.toList.take ([x].length * 3))[0 * 3 + j]? = some v := by
            rw [List.getElem?_take_of_lt (by simp; omega), Array.getElem?_toList]; exact hv
          rw [htk, flat_get [x] 0 j hj] at h1
          match j, hj with
          | 0, _ => simp [cellsK] at h1; simp [rowK] at hx; subst h1; subst hx; exact .int _ _
          | 1, _ => simp [cellsK] at h1; simp [rowK] at hx; subst h1; subst hx; exact .int _ _
          | 2, _ => simp [cellsK] at h1; simp [rowK] at hx; subst h1; subst hx; exact .int _ _
    refine (sortOneW (bs := bs) w hG B nb cap hF hB hbase x cur hnb hcap hcur hRB).mono ?_
    rintro e w' ⟨hr, hb, M, F', hRB'⟩
    exact ⟨hr, hb, .inr ⟨x, nb, cap, M, F', rfl, hcap, rfl, hbase, Nat.lt_of_lt_of_le (Array.getElem?_eq_some_iff.1 hnb).1 hb.size, hRB'⟩⟩
set_option maxRecDepth 100000 in
set_option maxHeartbeats 1000000 in
theorem sorted12W {F : Nat → Prop} (B b : Nat) (ents : Array MapEntry) (clock : Nat) (l : List Kl) (hl : l.length ≤ 1) (w : World) (hG : Glob (G0 bs) F w) (hF : ∀ b, F b → b < w.heap.size) (hm : w.cell? ⟨B, 0, none⟩ = some (.map (some b))) (hBl : B < w.heap.size) (hb : w.heap[b]? = some (.map ents clock)) (hvals : ents.toList.map (·.key) = l.map encV) (hlen : ents.size = l.length)
    (hold : ∀ x ∈ ents.toList, x.born < clock) (hnd : (ents.toList.map (·.born)).Nodup) :
    Calls Tryd.prog 12 #[.func (.func 22) #[] #[.pointer (some ⟨B, 0, none⟩)], .func (.func 14) #[] #[]] w fun e w' => ∃ val, e = .returned val ∧ Below w.heap.size w w' ∧
      ((l = [] ∧ ∃ A c, val = .slice A 0 c) ∨ ∃ (x : Kl) (nb cap : Nat) (M : Mp) (F' : Nat → Prop), l = [x] ∧ 1 ≤ cap ∧ val = .slice (some ⟨nb, 0, none⟩) 1 cap ∧ w.heap.size ≤ nb ∧ nb < w'.heap.size ∧ RB M F' w' nb (.row 3 [rowK x])) := by
  have hG2 : ∀ w', Below w.heap.size w w' → Glob (G0 bs) F w' := fun w' hB => hG.mono (U := fun b => b < w.heap.size) (fun _ h => h) hF (below_ext hB)
  have h20 := collect20 B b ents clock l (by omega) w hm hBl hb hvals hlen hold hnd
  have e20 : ∀ args w, (callFunc 20 args).run Tryd.prog w = .ok (.enter 20 args) w := enters_of Tryd.func20 (by kernel_rfl) rfl
  have e21 : ∀ args w, (callFunc 21 args).run Tryd.prog w = .ok (.enter 21 args) w := enters_of Tryd.func21 (by kernel_rfl) rfl
  go_enter Tryd.func12, Tryd.ntmps12
  go_wp2_with (first
    | (go_at_call 20; refine h20.mono ?_; rintro e w1 ⟨v, ss, rfl, hp, hrow, ho, hB1⟩)
    | (go_at_call 21; refine (sortAnyW (bs := bs) w.heap.size w1 (hG2 _ hB1) hF hB1.size v ss (by rw [hp.length_eq]; exact hl) hrow ho).mono ?_; rintro e w2 ⟨⟨r2, rfl⟩, hB2, hres⟩))
  go_ret
  refine ⟨_, rfl, hB1.trans hB2, ?_⟩
  rcases hres with ⟨rfl, A, c, rfl⟩ | ⟨x, nb, cap, M, F', rfl, q1, rfl, q2, q3, q4⟩
  · exact .inl ⟨(List.nil_perm.1 hp), A, c, rfl⟩
  · exact .inr ⟨x, nb, cap, M, F', (List.singleton_perm.1 hp).symm, q1, rfl, q2, q3, q4⟩
/-- Keys, sorted, of a map of at most one: as data. -/
theorem sorted12N {L : List AB} {s : List (Nat × AB)} (kk id : Nat) (l : List Kl) (hl : l.length ≤ 1) (hL : L[kk]? = some (.cells [.mp (.g id)])) (hs : (id, AB.dmap (encK l)) ∈ s) :
    ReadsN Tryd.prog (G0 bs) L s 12 [.fn 22 [.ref (.l kk) 0], .fn 14 []] (.d (.list 3 (rowsK l))) [] := by
  refine ⟨enters_of Tryd.func12 (by kernel_rfl) rfl, fun M F U w vals hS hG hlv hv => ?_⟩
  have hFw : ∀ b, F b → b < w.heap.size := fun b hb => hS.Ult b (hS.FU b hb)
  obtain ⟨v1, v2, rfl⟩ : ∃ v1 v2, vals = [v1, v2] := by
    match vals, hlv with
    | [v1, v2], _ => exact ⟨v1, v2, rfl⟩
  have h1 := hv 0 _ v1 rfl rfl
  have h2 := hv 1 _ v2 rfl rfl
  obtain rfl : v2 = .func (.func 14) #[] #[] := by
    cases h2 with
    | fn _ _ vs hl h =>
      have : vs = [] := List.eq_nil_of_length_eq_zero hl
      subst this
      rfl
  obtain ⟨B, hgB, rfl⟩ : ∃ B, M.l kk = some B ∧ v1 = .func (.func 22) #[] #[.pointer (some ⟨B, 0, none⟩)] := by
    cases h1 with
    | fn _ _ vs hl h =>
      obtain ⟨u, rfl⟩ : ∃ u, vs = [u] := by
        match vs, hl with
        | [u], _ => exact ⟨u, rfl⟩
      have := h 0 _ u rfl rfl
      cases this with
      | ref _ _ b hb => exact ⟨b, hb, rfl⟩
  obtain ⟨arr, tt, hb1, hsz, hc1⟩ := hS.rb (.l kk) _ B hL hgB
  obtain ⟨u, hu⟩ : ∃ u, arr[0]? = some u := ⟨_, Array.getElem?_eq_getElem (by simp at hsz; omega)⟩
  have hru := (hc1 0 _ u rfl hu).2
  obtain ⟨b, hgb, rfl⟩ : ∃ b, M.g id = some b ∧ u = .map (some b) := by
    cases hru with
    | mp _ b h => exact ⟨b, h, rfl⟩
  obtain ⟨ents, clock, hb, h2, h3, h4, h5⟩ := hS.rb (.g id) (.dmap (encK l)) b hs hgb
  have hvals := keys_of h2 h3
  have hlen : ents.size = l.length := by simpa [encK, encM] using h2
  have hm : w.cell? ⟨B, 0, none⟩ = some (.map (some b)) := by simp [World.cell?, hb1, hu]
  have hBl := (Array.getElem?_eq_some_iff.1 hb1).1
  have hnd := borns_of h5
  have hold : ∀ x ∈ ents.toList, x.born < clock := fun x hx => by
    obtain ⟨i, hi⟩ := List.mem_iff_getElem?.1 hx
    exact h4 i x (by simpa using hi)
  refine (sorted12W (bs := bs) B b ents clock l hl w hG hFw hm hBl hb hvals hlen hold hnd).mono ?_
  rintro e w' ⟨val, rfl, hBe, ⟨rfl, A, c, rfl⟩ | ⟨x, nb, cap, M1, F1, rfl, q1, rfl, q2, q3, q4⟩⟩
  · exact ⟨_, _, _, _, rfl, grew_same_below (N := fun _ => False) hS hBe (fun _ h => h.elim) (.d (.empty _ _ _))⟩
  · refine ⟨_, _, _, _, rfl, grew_same_below (N := fun x => x = nb) hS hBe (fun y hy => by subst hy; exact ⟨q2, q3⟩) ?_⟩
    obtain ⟨arr1, t1, hh, hle, hln, hone, hrd⟩ := q4
    have hle : 3 ≤ arr1.size := by simpa using hle
    refine .d (.list 3 [rowK x] ⟨nb, 0, none⟩ cap (fun i j => (arr1[i * 3 + j]?).getD Go.undef) q1 (.inr rfl) (fun i r hr => hln i r hr) (fun i j hi hj => ?_) (fun i r hr j y hy => ?_))
    · have hi0 : i = 0 := by simpa using hi
      subst hi0
      have : 0 * 3 + j < arr1.size := by omega
      rw [add_plain, Array.getElem?_eq_getElem this]
      simp [World.cell?, hh, Array.getElem?_eq_getElem (show j < arr1.size by omega)]
    · have hj : j < 3 := by rw [← hln i r hr]; exact (List.getElem?_eq_some_iff.1 hy).1
      have hi0 : i = 0 := by
        have := (List.getElem?_eq_some_iff.1 hr).1
        simpa using this
      subst hi0
      have : 0 * 3 + j < arr1.size := by omega
      have hg := hrd 0 r j y arr1[0 * 3 + j] hr hy (Array.getElem?_eq_getElem this)
      rw [Array.getElem?_eq_getElem this]
      cases hr
      match j, hj with
      | 0, _ => simp [rowK] at hy; subst hy; have e := (RV.d (M := M1) hg).int_inv; simp only [Option.getD_some]; rw [e]; exact .int _ _
      | 1, _ => simp [rowK] at hy; subst hy; have e := (RV.d (M := M1) hg).int_inv; simp only [Option.getD_some]; rw [e]; exact .int _ _
      | 2, _ => simp [rowK] at hy; subst hy; have e := (RV.d (M := M1) hg).int_inv; simp only [Option.getD_some]; rw [e]; exact .int _ _
end Go.Proofs.YtgadgajhahfabaaDoor
