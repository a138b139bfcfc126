/- The seat's texts, part 1: what single functions of the program compute; no statement of its own. -/
import Derived.Test.YtkenimmellonjaaTab
import Derived.Test.YtkenimmellonjaaRn
import Derived.Test.YtkenimmellonjaaFrD
import Derived.Test.YtkenimmellonjaaFrC
import Derived.Test.YtkenimmellonjaaFn
import Derived.RangeFuncFrom
import Derived.Sort.MapsRangeIn
import Derived.Maps.RangeRun
import Derived.Maps.AppendAt
import Derived.WalkKit
import Derived.OwnWalkIn
import Derived.TacticsInMore
import Derived.RegionIn
import Derived.LoopNIn
import Derived.LoopIn
import Derived.RangeFuncBox
import Derived.Shelf.Abstract
import Derived.Shelf.Sort.Plain
import Derived.Shelf.Slices.In.SortNone
import Derived.Test.YtkenimmellonjaaProg
/- Seat r2: the values of a map, one by one, in whatever order. -/
namespace Go.Proofs.Ytkenimmellonjaa
open Go.RowKit Go.Maps
open Go.ChangeMaps (setBlock)
def encK (k : Int × Int × Int) : Value := .agg #[.int .i64 k.1, .int .i64 k.2.1, .int .i64 k.2.2]
theorem encK_inj {a b : Int × Int × Int} (h : encK a = encK b) : a = b := by
  simp [encK] at h
  exact Prod.ext h.1 (Prod.ext h.2.1 h.2.2)
section
variable {F : Fence} {n : Nat} {P : Program} {w : World} {ops : Array Oper} {rest : List Oper} {o : Oper} {a : Act} {Q : Exit → Act → World → Prop}
theorem range_raw (hg : o.guard = none) (m : Operand) (t : TypeId) (hop : o.op = Op.range t m) (k e : TypeId) (ht : P.underlying t = some (.map k e)) (b : Nat) (es : Array MapEntry) (clock : Nat) (hm : a.eval m = .map (some b)) (hb : w.heap[b]? = some (.map es clock))
    (hK : wpListIn F n P ops Q rest (a.put o.dst (.pointer (some ⟨w.heap.size, 0, none⟩))) (w.alloc (.mapIter (some b) clock #[] clock))) : wpListIn F n P ops Q (o :: rest) a w := by
  refine wpListIn_plain hg fun K' hK' => ?_
  have hrun : (Instr.range t (.map (some b))).run P w = .ok (.pointer (some ⟨w.heap.size, 0, none⟩)) (w.alloc (.mapIter (some b) clock #[] clock)) := by
    simp [Instr.range, Sem.run, Sem.run_bind, run_underlying ht, getObj, hb, Result.andThen, newObj]
  unfold Oper.wpIn
  refine ⟨?_, ?_⟩
  · simp [Oper.about, hop]
  · rw [Oper.semAt_plain F _ _ (by rw [hop]; intro c hc'; cases hc')]
    simp [execOp, hop, hm, hrun, Result.andThen]
    exact hK' _ _ hK
/-- The world itself, or with one draw more. -/
def Drawn (w w1 : World) : Prop := w1 = w ∨ w1 = w.drew
theorem next_raw (hg : o.guard = none) (it : Operand) (hop : o.op = Op.next it false) (b r since c0 : Nat) (seen : Array Nat) (es : Array MapEntry) (clock : Nat) (hit : a.eval it = .pointer (some ⟨r, 0, none⟩))
    (hr : w.heap[r]? = some (.mapIter (some b) since seen c0)) (hb : w.heap[b]? = some (.map es clock)) (hold : ∀ x ∈ es.toList, x.born < since) (hsc : since ≤ c0)
    (hDone : (∀ e ∈ es, e.born ∈ seen) → wpListIn F n P ops Q rest (a.put o.dst (.tuple #[.bool false])) w)
    (hMore : ∀ e ∈ es, ¬ e.born ∈ seen → ∀ w1, Drawn w w1 → wpListIn F n P ops Q rest (a.put o.dst (.tuple #[.bool true, e.key, e.val])) (setBlock w1 r (.mapIter (some b) since (seen.push e.born) clock))) :
    wpListIn F n P ops Q (o :: rest) a w := by
  refine wpListIn_plain hg fun K' hK' => ?_
  unfold Oper.wpIn
  refine ⟨by simp [Oper.about, hop], ?_⟩
  rw [Oper.semAt_plain F _ _ (by rw [hop]; intro c hc'; cases hc')]
  rcases run_next_at (P := P) w o.type r b since c0 seen es clock hr hb hold hsc with ⟨h0, hrun⟩ | ⟨e, he, w1, hw1, hrun⟩
  · simp [execOp, hop, hit, hrun, Result.andThen]
    refine hK' _ _ (hDone fun e he => ?_)
    have h1 : leftOf es seen = #[] := Array.eq_empty_of_size_eq_zero h0
    unfold leftOf at h1
    rw [Array.filter_eq_empty_iff] at h1
    simpa using h1 e he
  · simp [execOp, hop, hit, hrun, Result.andThen]
    unfold leftOf at he
    have he2 := Array.mem_filter.1 (Array.mem_toList_iff.1 he)
    exact hK' _ _ (hMore e he2.1 (by simpa using he2.2) w1 hw1)
theorem entry_raw (hg : o.guard = none) (it : Operand) (hop : o.op = Op.entry it) (b r since : Nat) (seen : Array Nat) (es : Array MapEntry) (clock : Nat) (e : MapEntry) (hit : a.eval it = .pointer (some ⟨r, 0, none⟩))
    (hr : w.heap[r]? = some (.mapIter (some b) since (seen.push e.born) clock)) (hb : w.heap[b]? = some (.map es clock)) (he : e ∈ es.toList) (hn : (es.toList.map (·.born)).Nodup)
    (hK : wpListIn F n P ops Q rest (a.put o.dst (.tuple #[e.key, e.val])) w) :
    wpListIn F n P ops Q (o :: rest) a w := by
  refine wpListIn_plain hg fun K' hK' => ?_
  unfold Oper.wpIn
  refine ⟨by simp [Oper.about, hop], ?_⟩
  rw [Oper.semAt_plain F _ _ (by rw [hop]; intro c hc'; cases hc')]
  simp [execOp, hop, hit, run_entry_at (P := P) w r b since seen es clock e hr hb he hn, Result.andThen]
  exact hK' _ _ hK
end
def seenAt (W : World) (r : Nat) : Nat := match W.heap[r]? with
  | some (.mapIter _ _ seen _) => seen.size
  | _ => 0
/-- A map's walk under way: nothing is laid into it; what has come. -/
structure Ranging (W : World) (b r : Nat) (es : Array MapEntry) (clock : Nat) (done : List MapEntry) (seen : Array Nat) (c0 : Nat) : Prop where
  map : W.heap[b]? = some (.map es clock)
  iter : W.heap[r]? = some (.mapIter (some b) clock seen c0)
  le : clock ≤ c0
  sub : ∀ e ∈ done, e ∈ es.toList
  nd : (done.map (·.born)).Nodup
  born : seen.toList = done.map (·.born)
theorem nodup_of_map {α β : Type} {f : α → β} : ∀ {l : List α}, (l.map f).Nodup → l.Nodup
  | [], _ => .nil
  | a :: r, h => by
    rw [List.map_cons, List.nodup_cons] at h
    exact List.nodup_cons.2 ⟨fun ha => h.1 (List.mem_map_of_mem ha), nodup_of_map h.2⟩
theorem nd_leV : ∀ {a b : List Nat}, a.Nodup → (∀ x ∈ a, x ∈ b) → a.length ≤ b.length
  | [], _, _, _ => Nat.zero_le _
  | x :: r, b, h, hs => by
    have hx := hs x (List.mem_cons_self ..)
    have h2 := nd_leV (a := r) (b := b.erase x) (List.nodup_cons.1 h).2 fun y hy => (List.mem_erase_of_ne (show y ≠ x from fun e => (List.nodup_cons.1 h).1 (by rw [← e]; exact hy))).2 (hs y (List.mem_cons_of_mem _ hy))
    rw [List.length_erase_of_mem hx] at h2
    have := List.length_pos_of_mem hx
    rw [List.length_cons]
    omega
theorem Ranging.len {W : World} {b r clock c0 : Nat} {es : Array MapEntry} {done : List MapEntry} {seen : Array Nat} (h : Ranging W b r es clock done seen c0) : done.length ≤ es.size := by
  have := nd_leV h.nd (b := es.toList.map (·.born)) fun x hx => by
    obtain ⟨e, he, rfl⟩ := List.mem_map.1 hx
    exact List.mem_map_of_mem (h.sub e he)
  simpa using this
theorem Ranging.step {W W' : World} {b r clock c0 : Nat} {es : Array MapEntry} {done : List MapEntry} {seen : Array Nat} (h : Ranging W b r es clock done seen c0) {e : MapEntry} (he : e ∈ es) (hs : ¬ e.born ∈ seen) (hd : Drawn W W') :
    Ranging (setBlock W' r (.mapIter (some b) clock (seen.push e.born) clock)) b r es clock (done ++ [e]) (seen.push e.born) clock := by
  have hrb : r ≠ b := fun q => by have h1 := h.iter; rw [q, h.map] at h1; cases h1
  have hh : W'.heap = W.heap := by rcases hd with rfl | rfl <;> rfl
  have hlt := (Array.getElem?_eq_some_iff.1 h.iter).1
  refine ⟨?_, ?_, Nat.le_refl _, fun x hx => ?_, ?_, ?_⟩
  · show (W'.heap.setIfInBounds r _)[b]? = _
    rw [Array.getElem?_setIfInBounds_ne hrb, hh]; exact h.map
  · show (W'.heap.setIfInBounds r _)[r]? = _
    rw [Array.getElem?_setIfInBounds_self_of_lt (by rw [hh]; exact hlt)]
  · rcases List.mem_append.1 hx with hx | hx
    · exact h.sub x hx
    · rw [List.mem_singleton.1 hx]; simpa using he
  · rw [List.map_append, List.nodup_append]
    refine ⟨h.nd, by simp, fun x hx y hy => ?_⟩
    rw [List.map_singleton, List.mem_singleton] at hy
    subst hy
    intro q
    refine hs ?_
    rw [← Array.mem_toList_iff, h.born, ← q]; exact hx
  · rw [Array.toList_push, h.born, List.map_append]; rfl
theorem Ranging.grown {W : World} {b r clock c0 : Nat} {es : Array MapEntry} {done : List MapEntry} {seen : Array Nat} (h : Ranging W b r es clock done seen c0) {W' : World} (hd : Drawn W W') (o : Obj) : W.grownBy (setBlock W' r o) (some r) := by
  have hh : W'.heap = W.heap ∧ W'.os = W.os ∧ W'.output = W.output ∧ W'.tape = W.tape := by rcases hd with rfl | rfl <;> exact ⟨rfl, rfl, rfl, rfl⟩
  refine ⟨hh.2.1, hh.2.2.2, hh.2.2.1, ?_, fun k _ hk => ?_⟩
  · show W.heap.size ≤ (W'.heap.setIfInBounds r o).size
    rw [Array.size_setIfInBounds, hh.1]; exact Nat.le_refl _
  · show (W'.heap.setIfInBounds r o)[k]? = _
    rw [Array.getElem?_setIfInBounds_ne (fun q => hk (by rw [q])), hh.1]
theorem Ranging.alloc {W : World} {b r clock c0 : Nat} {es : Array MapEntry} {done : List MapEntry} {seen : Array Nat} (h : Ranging W b r es clock done seen c0) (o : Obj) : Ranging (W.alloc o) b r es clock done seen c0 :=
  ⟨(Below.heap_alloc W o b (Array.getElem?_eq_some_iff.1 h.map).1).trans h.map, (Below.heap_alloc W o r (Array.getElem?_eq_some_iff.1 h.iter).1).trans h.iter, h.le, h.sub, h.nd, h.born⟩
theorem Ranging.walks {W W' : World} {b r clock c0 : Nat} {es : Array MapEntry} {done : List MapEntry} {seen : Array Nat} (h : Ranging W b r es clock done seen c0) (hk : KeepsWalks W W') : Ranging W' b r es clock done seen c0 :=
  ⟨hk.same _ _ h.map rfl, hk.same _ _ h.iter rfl, h.le, h.sub, h.nd, h.born⟩
theorem Ranging.seen {W : World} {b r clock c0 : Nat} {es : Array MapEntry} {done : List MapEntry} {seen : Array Nat} (h : Ranging W b r es clock done seen c0) : seenAt W r = done.length := by
  have h1 := congrArg List.length h.born
  unfold seenAt
  rw [h.iter]
  simpa using h1
theorem Ranging.all {W : World} {b r clock c0 : Nat} {es : Array MapEntry} {done : List MapEntry} {seen : Array Nat} (h : Ranging W b r es clock done seen c0) (hn : (es.toList.map (·.born)).Nodup) (hd : ∀ e ∈ es, e.born ∈ seen) : done.Perm es.toList := by
  have hnd := nodup_of_map hn
  refine (List.perm_ext_iff_of_nodup (nodup_of_map h.nd) hnd).2 fun e => ⟨h.sub e, fun he => ?_⟩
  have h1 := hd e (by simpa using he)
  rw [← Array.mem_toList_iff, h.born] at h1
  obtain ⟨e', he', hb⟩ := List.mem_map.1 h1
  have := born_inj hn he (h.sub e' he') hb.symm
  exact this ▸ he'
set_option maxRecDepth 100000 in
set_option maxHeartbeats 1000000 in
theorem values1 (F : Fence) (n : Nat) (h104 : F.fn 104) (hro : F.round = none) (hn : 1 ≤ n) (l Bm b : Nat) (es : Array MapEntry) (clock : Nat) (hold : ∀ x ∈ es.toList, x.born < clock) (hval : ∀ x ∈ es.toList, ∃ k, x.val = encK k) (hnd : (es.toList.map (·.born)).Nodup) (J Jx : List (Int × Int × Int) → World → Prop)
    (hY : ∀ pre x W, J pre W → pre.length < es.size → YieldAt F (n - 1) Try.prog l #[encK x] W fun e W' => (e = .returned (.bool true) ∧ J (pre ++ [x]) W' ∧ KeepsWalks W W') ∨ (e = .returned (.bool false) ∧ Jx (pre ++ [x]) W'))
    (W : World) (hJ : AbidesFrom W.heap.size J) (hm : W.cell? ⟨Bm, 0, none⟩ = some (.map (some b))) (hb : W.heap[b]? = some (.map es clock)) (h0 : J [] W) :
    CallsIn F n Try.prog 104 #[.func (.yield l) #[] #[], .pointer (some ⟨Bm, 0, none⟩)] W fun e W' => (∃ v, e = .returned v) ∧ ((∃ ss : List (Int × Int × Int), (ss.map encK).Perm (es.toList.map (·.val)) ∧ J ss W') ∨ ∃ pre, Jx pre W') := by
  refine callsIn_of_wp Try.func104 rfl h104 ?_ hro
  simp only [Try.ntmps104, List.size_toArray, List.length_cons, List.length_nil, Nat.reduceAdd, Nat.reduceSub, Array.replicate_succ, Array.replicate_zero, List.push_toArray, List.append_toArray, List.nil_append, List.cons_append]
  have hbl := (Array.getElem?_eq_some_iff.1 hb).1
  gi_wp2_with (first
    | (gi_at_range; refine range_raw rfl _ 31 rfl 36 38 Try.underlying31 b es clock rfl hb ?_)
    | gi_in)
  go_frame
  gi_loopw [4] (fun _ wr => ∃ (done : List MapEntry) (seen : Array Nat) (c0 : Nat) (ss : List (Int × Int × Int)), Ranging wr b W.heap.size es clock done seen c0 ∧ ss.map encK = done.map (·.val) ∧ J ss wr)
    (fun _ wr => es.size - seenAt wr W.heap.size)
  case atStart =>
    exact ⟨[], #[], clock, [], ⟨(Below.heap_alloc W _ b hbl).trans hb, World.alloc_heap_new W _, Nat.le_refl _, by simp, by simp, by simp⟩, rfl, hJ [] W _ none h0 (World.grownBy_alloc W _ none) (fun r e => by cases e)⟩
  case round =>
    obtain ⟨done, seen, c0, ss, hrg, hss, hJs⟩ := hrel
    gi_wp2_with (first
      | (gi_at_next; refine next_raw rfl _ rfl b W.heap.size clock c0 seen es clock rfl hrg.iter hrg.map hold hrg.le ?_ ?_)
      | gi_in)
    · intro hall
      gi_wp2
      go_end0
      refine ⟨⟨_, rfl⟩, .inl ⟨ss, ?_, hJs⟩⟩
      rw [hss]
      exact (hrg.all hnd hall).map _
    · intro e he hes w1 hw1
      obtain ⟨k, hk⟩ := hval e (by simpa using he)
      have hrg2 := hrg.step he hes hw1
      have hg2 := hrg.grown hw1 (.mapIter (some b) clock (seen.push e.born) clock)
      have hJ2 := hJ ss wr _ (some W.heap.size) hJs hg2 (fun r q => by cases q; exact ⟨Nat.le_refl _, _, hrg.iter, rfl⟩)
      have hen := run_entry_at (P := Try.prog) _ W.heap.size b clock seen es clock e hrg2.iter hrg2.map (by simpa using he) hnd
      clear hg2
      generalize setBlock w1 W.heap.size (.mapIter (some b) clock (seen.push e.born) clock) = w2 at hrg2 hJ2 hen
      rw [hk] at hen
      rw [hk]
      unfold encK at hen
      unfold encK
      have hlen : ss.length < es.size := by
        have h1 := hrg2.len
        have h2 := congrArg List.length hss
        simp only [List.length_map, List.length_append, List.length_cons, List.length_nil] at h1 h2
        omega
      have hJ3 := hJ ss w2 _ none hJ2 (World.grownBy_alloc w2 (.cells #[.int .i64 k.1, .int .i64 k.2.1, .int .i64 k.2.2] 38) none) (fun r e => by cases e)
      have hrg3 := hrg2.alloc (.cells #[.int .i64 k.1, .int .i64 k.2.1, .int .i64 k.2.2] 38)
      obtain ⟨fn, tmps, assign, body, hy, hR⟩ := hY ss k _ hJ3 hlen
      unfold encK at hy
      gi_wp2
      refine hR.mono ?_
      rintro e' W3 (⟨rfl, hJ4, hk4⟩ | ⟨rfl, hJ4⟩)
      · gi_wp2
        have hrg4 := hrg3.walks hk4
        go_roundw
        case rel => exact ⟨done ++ [e], _, _, ss ++ [k], hrg4, by rw [List.map_append, List.map_append, hss, List.map_singleton, List.map_singleton, hk], hJ4⟩
        case measure =>
          rw [hrg4.seen, hrg.seen]
          have h1 := hrg4.len
          simp only [List.length_append, List.length_cons, List.length_nil] at h1 ⊢
          omega
      · gi_wp2
        refine bodyPost_ret (results_none rfl _ _ _) rfl ?_
        exact ⟨⟨_, rfl⟩, .inr ⟨_, hJ4⟩⟩
/-- What maps.Values hands back, as an iterator. -/
theorem values_stops (F : Fence) (n : Nat) (h104 : F.fn 104) (hro : F.round = none) (hn : 1 ≤ n) (Bm b : Nat) (es : Array MapEntry) (clock : Nat) (hold : ∀ x ∈ es.toList, x.born < clock) (hval : ∀ x ∈ es.toList, ∃ k, x.val = encK k) (hnd : (es.toList.map (·.born)).Nodup)
    (w : World) (hBm : Bm < w.heap.size) (hm : w.cell? ⟨Bm, 0, none⟩ = some (.map (some b))) (hb : w.heap[b]? = some (.map es clock)) :
    SeqStopsK F n Try.prog 104 #[.pointer (some ⟨Bm, 0, none⟩)] (fun x => #[encK x]) KeepsWalks (fun ss => (ss.map encK).Perm (es.toList.map (·.val))) (fun _ => True) es.size w := fun l J Jx W hW hJ _ hY h0 => by
  refine (values1 F n h104 hro hn l Bm b es clock hold hval hnd J Jx hY W hJ ((hW.cell (p := ⟨Bm, 0, none⟩) hBm).trans hm) ((hW.block b (Array.getElem?_eq_some_iff.1 hb).1).trans hb) h0).mono ?_
  rintro e W' ⟨hv, ⟨ss, hs, hj⟩ | ⟨pre, hj⟩⟩
  · exact ⟨hv, .inl ⟨ss, hs, hj⟩⟩
  · exact ⟨hv, .inr ⟨pre, trivial, hj⟩⟩
end Go.Proofs.Ytkenimmellonjaa
/- Seat r2: a loop over an iterator whose variable lies in a box of its own each round; what has come, as a row. -/
namespace Go.Proofs.Ytkenimmellonjaa
open Go.RowKit Go.Maps Go.Shelf
section
variable {F : Fence} {n : Nat} {P : Program}
/-- The loop over an iterator that never is left early; the round's own variable is laid anew each round. -/
theorem rangeFunc_box {α : Type} {g : Operand} {ps : Array Tmp} {assign body : Code} {Q : Exit → Act → World → Prop} {a : Act} {w : World}
    (hro : F.round = none) (h1 : 1 ≤ n) {gf : Nat} {lb : Array Value} (hg : a.eval g = .func (.func gf) #[] lb) (hFg : F.fn gf) (eg : ∀ args w, (callFunc gf args).run P w = .ok (.enter gf args) w)
    {encs : α → Array Value} {S Sp : List α → Prop} {N : Nat} (hseq : SeqStopsK F (n - 1) P gf lb encs KeepsWalks S Sp N w) (hps : ∀ x, (encs x).size = ps.size)
    (I : List α → World → Prop) (hI : OwnFrom w.heap.size I) (h0 : I [] w) (Im : List α × α × Act → World → Prop) (hIm : OwnFrom w.heap.size Im)
    (hassign : ∀ (l : Nat) (pre : List α) (x : α) (W : World), I pre W → pre.length < N →
      assign.wpIn (F.inRound l) (n - 1 - 1) P (Exit.then (fun a₁ W₁ => KeepsOthers W W₁ ∧ Im (pre, x, a₁) W₁) (fun _ _ _ => False)) { tmps := (ps.zip (encs x)).foldl (fun t (p, v) => t.setIfInBounds p v) a.tmps, defers := [] } W)
    (hbody : ∀ (l : Nat) (pre : List α) (x : α) (a₁ : Act) (W : World), Im (pre, x, a₁) W → body.wpIn (F.inRound l) (n - 1 - 1) P (fun e _ W' => e = .normal ∧ KeepsOthers W W' ∧ I (pre ++ [x]) W') a₁ W)
    (hdone : ∀ (D : Nat) (xs : List α) (W : World), w.heap.size ≤ D → S xs → I xs W → W.heap[D]? = some (.deferred (some [])) → Q .normal { a with defers := { target := .collected D, args := #[] } :: a.defers } W) :
    (Code.rangeFunc g ps assign body).wpIn F n P Q a w := by
  refine wpIn_rangeFunc fun fn hfn => ?_
  rw [hro]
  obtain ⟨rec, hrec⟩ : ∃ rec : LoopState → Option Code → Loop, ∀ st pe, rec st pe = { state := st, pending := pe, fn, tmps := a.tmps, params := ps, assign, body, defers := w.heap.size } := ⟨_, fun _ _ => rfl⟩
  obtain ⟨W1, hW1⟩ : ∃ W1, (w.alloc (.deferred (some []))).alloc (.loop (rec .ready none)) = W1 := ⟨_, rfl⟩
  have e1 : W1.heap[w.heap.size + 1]? = some (.loop (rec .ready none)) := by
    subst hW1
    have := World.alloc_heap_new (w.alloc (.deferred (some []))) (.loop (rec .ready none))
    rwa [World.size_alloc] at this
  have e2 : W1.heap[w.heap.size]? = some (.deferred (some [])) := by
    subst hW1
    exact (Below.heap_alloc _ _ _ (by simp)).trans (World.alloc_heap_new w _)
  have e3 : W1.heap.size = w.heap.size + 2 := by subst hW1; simp
  have e4 : I [] W1 := by subst hW1; exact hI.alloc _ (hI.alloc _ h0)
  have e5 : Below w.heap.size w W1 := by
    subst hW1
    exact ((Below.refl _ w).alloc (Nat.le_refl _) _).alloc (by simp) _
  refine ⟨w.heap.size + 1, [{ target := .collected w.heap.size, args := #[] }], W1, { target := .fn (.func gf) lb, args := #[.func (.yield (w.heap.size + 1)) #[] #[]] }, W1, gf,
    #[.func (.yield (w.heap.size + 1)) #[] #[]] ++ lb, W1, ?_, ?_, ?_, ?_, fun _ => h1, ?_⟩
  · rw [← hW1, hrec]; exact run_enterLoop_outer _ _ _ _ _
  · simp only [resolve, hg]
    simp [go_sem]
  · intro f' hf'
    simp [Target.leads] at hf'
    subst hf'
    exact hFg
  · simp [invoke, go_sem, eg]
  -- the iterator's contract
  refine (hseq (w.heap.size + 1) (fun pre W => I pre W ∧ W.heap[w.heap.size + 1]? = some (.loop (rec .ready none)) ∧ W.heap[w.heap.size]? = some (.deferred (some []))) (fun _ _ => False) W1 e5 ?_ (fun _ _ _ _ hs _ _ => hs) ?_ ⟨e4, e1, e2⟩).mono ?_
  · intro s A B row hs hgr hr
    have hw : ∀ r, row = some r → ∃ o : Obj, A.heap[r]? = some o ∧ o.isWalk = true := fun r e => (hr r e).2
    refine ⟨hI s A B row hs.1 hgr fun r e => ?_, (grownBy_keeps hgr hw hs.2.1 rfl).trans hs.2.1, (grownBy_keeps hgr hw hs.2.2 rfl).trans hs.2.2⟩
    obtain ⟨q1, o, q2, q3⟩ := hr r e
    exact ⟨by omega, o, q2, Obj.not_cells_of_walk q3⟩
  · rintro pre x W ⟨i1, i2, i3⟩ hlen
    have hy := run_yield (P := P) (args := encs x) i2 (by rw [hrec]; exact hps x)
    rw [hrec] at hy
    refine ⟨fn, _, assign, body, hy, roundIn_of_wpIn hfn (wpIn_mono (hassign _ pre x W i1 hlen) ?_)⟩
    intro e a₁ W₁ hp
    cases e with
    | normal =>
      obtain ⟨k1, m1⟩ := hp
      have l1 := k1.same _ _ i2 rfl
      have d1 := k1.same _ _ i3 rfl
      refine ⟨_, run_beginRound l1 (by rw [hrec]), ?_⟩
      have m2 := hIm.putObj (.loop { rec .ready none with state := .busy }) m1 (by omega) l1 rfl
      have l2 : (W₁.putObj (w.heap.size + 1) (.loop { rec .ready none with state := .busy })).heap[w.heap.size + 1]? = some (.loop { rec .ready none with state := .busy }) := World.putObj_heap_same (Array.getElem?_eq_some_iff.1 l1).1
      have d2 : (W₁.putObj (w.heap.size + 1) (.loop { rec .ready none with state := .busy })).heap[w.heap.size]? = some (.deferred (some [])) := (World.putObj_heap_other (by omega)).trans d1
      have w2 : KeepsWalks W (W₁.putObj (w.heap.size + 1) (.loop { rec .ready none with state := .busy })) := k1.walks.trans (KeepsWalks.putObj _ l1 rfl)
      refine wpIn_mono (hbody _ pre x a₁ _ m2) ?_
      rintro e a3 W3 ⟨rfl, k3, i3⟩
      have l3 := k3.same _ _ l2 rfl
      have d3 := k3.same _ _ d2 rfl
      refine ⟨_, _, run_endRound none l3, .inl ⟨rfl, ⟨hI.putObj _ i3 (by omega) l3 rfl, ?_, (World.putObj_heap_other (by omega)).trans d3⟩, (w2.trans k3.walks).trans (KeepsWalks.putObj _ l3 rfl)⟩⟩
      rw [World.putObj_heap_same (Array.getElem?_eq_some_iff.1 l3).1, hrec]
      rfl
    | _ => exact hp.elim
  · rintro e W2 ⟨⟨v, rfl⟩, ⟨xs, hS, i1, i2, i3⟩ | ⟨_, _, hf⟩⟩
    · have := run_endLoop (P := P) i2 (by rw [hrec]; simp)
      rw [hrec] at this
      exact ⟨none, _, this, hdone _ xs _ (Nat.le_refl _) hS (hI.putObj _ i1 (by omega) i2 rfl) ((World.putObj_heap_other (by omega)).trans i3)⟩
    · exact hf.elim
end
def cellsK (k : Int × Int × Int) : List Value := [.int .i64 k.1, .int .i64 k.2.1, .int .i64 k.2.2]
theorem cell_three (w : World) (x : Int × Int × Int) : ∀ (j : Nat) (u : Value), (cellsK x)[j]? = some u → (w.alloc (.cells #[.int .i64 x.1, .int .i64 x.2.1, .int .i64 x.2.2] 38)).cell? ((⟨w.heap.size, 0, none⟩ : Addr).add j) = some u := by
  intro j u hu
  have hj : j < 3 := by
    have := (List.getElem?_eq_some_iff.1 hu).1
    simpa [cellsK] using this
  match j, hj with
  | 0, _ => simp [cellsK] at hu; subst hu; simp [Addr.add]
  | 1, _ => simp [cellsK] at hu; subst hu; simp [Addr.add]
  | 2, _ => simp [cellsK] at hu; subst hu; simp [Addr.add]
/-- All that lies in a slice's own block fills one cell each. -/
def OneRow (W : World) (v : Value) : Prop := ∀ (g : Nat) (cur : Array Value) (t : TypeId) (fr : Nat × Nat), v.ownBlock = some g → W.heap[g]? = some (.cells cur t fr) → ∀ u ∈ cur.toList, u.oneCell' = true
theorem OneRow.kept {W W' : World} {row : Option Nat} {base : Nat} {e : TypeId} {size k : Nat} {v : Value} {xs : List Value} (h : OneRow W v) (hr : W.ownsRow base e size v k xs) (hg : W.grownBy W' row) (hne : v.ownBlock = none ∨ v.ownBlock ≠ row) : OneRow W' v := by
  intro g cur t fr hv hW u hu
  rcases hr.2 with ⟨rfl, _⟩ | ⟨g2, cap, cur2, rfl, _, hgb, _⟩
  · simp [Value.ownBlock] at hv
  · obtain rfl : g2 = g := by simpa [Value.ownBlock] using hv
    have hlt := (Array.getElem?_eq_some_iff.1 hgb).1
    rw [hg.block g2 hlt (fun q => by rcases hne with h1 | h1 <;> simp [Value.ownBlock] at h1; exact h1 q)] at hW
    exact h g2 cur t fr (by simp [Value.ownBlock]) hW u hu
theorem OneRow.nil (W : World) : OneRow W (.slice none 0 0) := by
  intro g cur t fr hv
  simp [Value.ownBlock] at hv
theorem one_zeros {n : Nat} {z : Array Value} (hz : ∀ u ∈ z.toList, u.oneCell' = true) : ∀ u ∈ (Builtin.zeroCells z n).toList, u.oneCell' = true := by
  intro u hu
  unfold Builtin.zeroCells at hu
  rw [Array.toList_map] at hu
  obtain ⟨i, hi, rfl⟩ := List.mem_map.1 hu
  have hi : i < n * z.size := by simpa using hi
  have hp : 0 < z.size := by
    rcases Nat.eq_zero_or_pos z.size with h | h
    · rw [h] at hi; omega
    · exact h
  have hlt := Nat.mod_lt i hp
  rw [getElem!_pos z (i % z.size) hlt]
  exact hz _ (by simp)
theorem append_one {P : Program} (w : World) (base : Nat) (t ty e : TypeId) (i : TypeInfo) (z : Value) (size bytes : Nat) (ht : P.underlying t = some (.slice e)) (hi : P.info? e = some i) (hz : i.zero = some z)
    (hsize : i.size = size) (hby : i.bytes = bytes) (hzs : z.cells.size = size) (hz1 : ∀ u ∈ z.cells.toList, u.oneCell' = true)
    (v : Value) (n : Nat) (xs : List Value) (hown : w.ownsRow base e size v n xs) (ho : OneRow w v)
    (a : Addr) (m c : Nat) (news : List Value) (hm : 0 < m) (hl : news.length = m * size) (hnews : ∀ j u, news[j]? = some u → w.cell? (a.add j) = some u) (h1 : ∀ u ∈ news, u.oneCell' = true)
    (h63 : n + m ≤ maxLen) (hbytes : (n + m) * bytes ≤ 140737488355328) {v' : Value} {w' : World} (hrun : (Builtin.append_ #[t, t] ty #[v, .slice (some a) m c]).run P w = .ok v' w') : OneRow w' v' := by
  subst hsize
  subst hby
  have hsmall : n + m ≤ 9223372036854775807 := by simp only [maxLen] at h63; omega
  rcases hown.2 with ⟨rfl, rfl⟩ | ⟨g, cap, cur, rfl, _, hg, hnc, _, hcs, htk⟩
  · have hr := run_append_nil (P := P) w t ty e i z ht hi hz a m c news hl hnews hm (by omega) (by simp only [Nat.zero_add] at hbytes; omega)
    rw [hr] at hrun
    cases hrun
    intro b cur2 t2 fr hv hW u hu
    obtain rfl : w.heap.size = b := by simpa [Value.ownBlock] using hv
    have := heap_alloc_new w.drew (.cells (news.toArray ++ Builtin.zeroCells z.cells (grownCap w m 0 e - m)) e)
    rw [show w.drew.heap.size = w.heap.size from rfl] at this
    rw [this] at hW
    cases hW
    rw [Array.toList_append] at hu
    rcases List.mem_append.1 hu with hu | hu
    · exact h1 u (by simpa using hu)
    · exact one_zeros hz1 u hu
  · have hcur : ∀ u ∈ cur.toList, u.oneCell' = true := ho g cur e (0, 0) (by simp [Value.ownBlock]) hg
    by_cases hroom : n + m ≤ cap
    · have hfit : n * i.size + news.length ≤ cur.size := by rw [hl, hcs, ← Nat.add_mul]; exact Nat.mul_le_mul_right _ hroom
      have hr := run_append_room (P := P) w t ty e i ht hi g n cap cur hg a m c news hl hnews h1 hroom hfit
      rw [hr] at hrun
      cases hrun
      intro b cur2 t2 fr hv hW u hu
      obtain rfl : g = b := by simpa [Value.ownBlock] using hv
      rw [setRow_heap w g cur _ e _ hg] at hW
      cases hW
      rw [List.toList_toArray] at hu
      rcases List.mem_append.1 hu with hu | hu
      · rcases List.mem_append.1 hu with hu | hu
        · exact hcur u (List.mem_of_mem_take hu)
        · exact h1 u hu
      · exact hcur u (List.mem_of_mem_drop hu)
    · have holds : ∀ j u, xs[j]? = some u → w.cell? ((⟨g, 0, none⟩ : Addr).add j) = some u := hown.cells (g := g) rfl
      have hr := run_append_grow (P := P) w t ty e i z ht hi hz ⟨g, 0, none⟩ n cap xs hown.1 holds a m c news hl hnews (by omega) (by omega) (growslice_fits (by omega) hbytes)
      rw [hr] at hrun
      cases hrun
      intro b cur2 t2 fr hv hW u hu
      obtain rfl : w.heap.size = b := by simpa [Value.ownBlock] using hv
      have := heap_alloc_new w.drew (.cells (xs.toArray ++ news.toArray ++ Builtin.zeroCells z.cells (grownCap w (n + m) cap e - (n + m))) e)
      rw [show w.drew.heap.size = w.heap.size from rfl] at this
      rw [this] at hW
      cases hW
      rw [Array.toList_append, Array.toList_append] at hu
      rcases List.mem_append.1 hu with hu | hu
      · rcases List.mem_append.1 hu with hu | hu
        · refine hcur u ?_
          rw [← htk] at hu
          exact List.mem_of_mem_take (by simpa using hu)
        · exact h1 u (by simpa using hu)
      · exact one_zeros hz1 u hu
/-- 'append' onto a slice of the call's own, all of whose block fills one cell each. -/
theorem append_raw {F : Fence} {n : Nat} {P : Program} (w : World) {ops : Array Oper} {rest : List Oper} {o : Oper} {a : Act} {Q : Exit → Act → World → Prop}
    (hg : o.guard = none) (s x : Operand) (t : TypeId) (hop : o.op = Op.call { callee := Callee.builtin Builtin.append, args := #[s, x], argTypes := #[t, t] })
    (base : Nat) (e : TypeId) (i : TypeInfo) (z : Value) (size bytes : Nat) (h1 : P.underlying t = some (.slice e)) (h2 : P.info? e = some i) (h3 : i.zero = some z) (h4 : i.size = size) (h5 : i.bytes = bytes) (h6 : z.cells.size = size) (h7 : 0 < size) (hz1 : ∀ u ∈ z.cells.toList, u.oneCell' = true)
    (v : Value) (k : Nat) (xs : List Value) (hs : a.eval s = v) (hown : w.ownsRow base e size v k xs) (ho : OneRow w v) (ad : Addr) (m c : Nat) (hm : 0 < m) (news : List Value) (hx : a.eval x = .slice (some ad) m c) (hn : news.length = m * size)
    (hc : ∀ j u, news[j]? = some u → w.cell? (ad.add j) = some u) (h1c : ∀ u ∈ news, u.oneCell' = true) (b1 : k + m ≤ maxLen) (b2 : (k + m) * bytes ≤ 140737488355328) (b3 : base ≤ w.heap.size)
    (hK : ∀ v' w', w'.ownsRow base e size v' (k + m) (xs ++ news) → w.grownBy w' v.ownBlock → OneRow w' v' → wpListIn F n P ops Q rest (a.put o.dst v') w') :
    wpListIn F n P ops Q (o :: rest) a w := by
  refine wpListIn_plain hg fun K hK' => ?_
  obtain ⟨v', w', hrun, r1, r2, _⟩ := run_append_own (P := P) w base t o.type e i z size bytes h1 h2 h3 h4 h5 h6 h7 v k xs hown ad m c news hn hc h1c b1 b2 b3
  have r4 := append_one (P := P) w base t o.type e i z size bytes h1 h2 h3 h4 h5 h6 hz1 v k xs hown ho ad m c news hm hn hc h1c b1 b2 hrun
  unfold Oper.wpIn
  refine ⟨?_, ?_⟩
  · simp [Oper.about, hop, resolve, Target.leads, Sem.run_pure]
  · rw [Oper.semAt_plain F _ _ (by rw [hop]; intro c hc'; cases hc')]
    simp [execOp, hop, resolve, invoke, builtin, hs, hx, hrun, Result.andThen]
    exact hK' _ _ (hK v' w' r1 r2 r4)
/-- What has come so far, in the box. -/
def RowAt (n₀ : Nat) (ss : List (Int × Int × Int)) (W : World) : Prop := ∃ v, Boxed W n₀ 30 v ∧ W.ownsRow n₀ 38 3 v ss.length (ss.flatMap cellsK) ∧ OneRow W v
theorem rowAt_own {β : Type} (n₀ : Nat) (f : β → List (Int × Int × Int)) : Own (fun s W => RowAt n₀ (f s) W) := by
  rintro s X Y row ⟨v, hv, hr, ho⟩ hg hrow
  have hne : v.ownBlock = none ∨ v.ownBlock ≠ row := by
    rcases hr.2 with ⟨rfl, _⟩ | ⟨g, cap, cur, rfl, _, hgb, _⟩
    · exact .inl rfl
    · refine .inr fun e' => ?_
      obtain ⟨o, ho, hc⟩ := hrow g (by simpa [Value.ownBlock] using e'.symm)
      rw [hgb] at ho; cases ho; cases hc
  refine ⟨v, hv.kept hg (fun e' => ?_), hr.kept hg hne, ho.kept hr hg hne⟩
  obtain ⟨o, ho, hc⟩ := hrow n₀ e'.symm
  rw [show X.heap[n₀]? = _ from hv] at ho; cases ho; cases hc
theorem RowAt.alloc {n₀ : Nat} {ss : List (Int × Int × Int)} {W : World} (h : RowAt n₀ ss W) (o : Obj) : RowAt n₀ ss (W.alloc o) := (rowAt_own (β := Unit) n₀ (fun _ => ss)).alloc (s := ()) o h
set_option maxRecDepth 100000 in
set_option maxHeartbeats 2000000 in
theorem appendSeq (F : Fence) (n : Nat) (h136 : F.fn 136) (hro : F.round = none) (hn : 2 ≤ n) (g : Nat) (lb : Array Value) (hFg : F.fn g) (eg : ∀ args w, (callFunc g args).run Try.prog w = .ok (.enter g args) w)
    (S Sp : List (Int × Int × Int) → Prop) (N : Nat) (hN : N ≤ 100000) (w : World) (hseq : ∀ w', Below w.heap.size w w' → SeqStopsK F (n - 1) Try.prog g lb (fun x => #[encK x]) KeepsWalks S Sp N w') :
    CallsIn F n Try.prog 136 #[.slice none 0 0, .func (.func g) #[] lb] w fun e w' => ∃ (v : Value) (ss : List (Int × Int × Int)), e = .returned v ∧ S ss ∧ w'.ownsRow w.heap.size 38 3 v ss.length (ss.flatMap cellsK) ∧ OneRow w' v ∧ Below w.heap.size w w' := by
  have h1 : 1 ≤ n := by omega
  refine callsIn_of_wp_marks Try.func136 rfl h136 ?_ hro
  simp only [Try.ntmps136, List.size_toArray, List.length_cons, List.length_nil, Nat.reduceAdd, Nat.reduceSub, Array.replicate_succ, Array.replicate_zero, List.push_toArray, List.append_toArray, List.nil_append, List.cons_append]
  gi_wp2
  have hB0 : Below w.heap.size w (w.alloc (.cells #[.slice none 0 0] 30)) := (Below.refl _ w).alloc (Nat.le_refl _) _
  refine rangeFunc_box hro h1 (gf := g) (lb := lb) rfl hFg eg (hseq _ hB0) (fun _ => rfl)
    (fun pre W => (RowAt w.heap.size pre W ∧ pre.length ≤ N) ∧ Below w.heap.size w W)
    (OwnFrom.and (Own.from (fun s A B row hs hg hr => ⟨rowAt_own w.heap.size (fun (pre : List (Int × Int × Int)) => pre) s A B row hs.1 hg hr, hs.2⟩) _) (ownFrom_below (Nat.le_refl _) (by simp)))
    ⟨⟨⟨_, Boxed.new w 30 _, World.ownsRow_nil _ _ _ _, OneRow.nil _⟩, Nat.zero_le _⟩, hB0⟩
    (fun q W => ((RowAt w.heap.size q.1 W ∧ q.1.length < N) ∧ Below w.heap.size w W) ∧
      ∃ V, W.heap[V]? = some (.cells #[.int .i64 q.2.1.1, .int .i64 q.2.1.2.1, .int .i64 q.2.1.2.2] 38 (0, 0)) ∧ q.2.2 = { tmps := #[.slice none 0 0, .func (.func g) #[] lb, .pointer (some ⟨w.heap.size, 0, none⟩), undef, .slice none 0 0, .pointer (some ⟨V, 0, none⟩), .func (.func g) #[] lb, encK q.2.1, undef, undef, undef, undef, undef], defers := [] })
    (OwnFrom.and (OwnFrom.and (Own.from (fun s A B row hs hg hr => ⟨rowAt_own w.heap.size (fun (q : List (Int × Int × Int) × (Int × Int × Int) × Act) => q.1) s A B row hs.1 hg hr, hs.2⟩) _) (ownFrom_below (Nat.le_refl _) (by simp)))
      (fun s A B row hs hg hr => by
        obtain ⟨V, hV, he⟩ := hs
        exact ⟨V, (grownBy_keeps_cells hg (fun r e => (hr r e).2) hV rfl).trans hV, he⟩)) ?assign ?body ?done
  case assign =>
    rintro l pre x W ⟨⟨hv, _⟩, hB⟩ hlen
    unfold encK
    gi_wp2_with (rw [Oper.semAt_eq _ _ _ (fun c h => by cases h)]; go_simp; try go_bits)
    exact ⟨KeepsOthers.alloc _ _, ⟨⟨hv.alloc _, hlen⟩, hB.alloc hB.size _⟩, W.heap.size, World.alloc_heap_new W _, rfl⟩
  case body =>
    rintro l pre x a₁ W ⟨⟨⟨⟨v, hv, hr, ho⟩, hlen⟩, hB⟩, V, hV, he⟩
    replace hr : W.ownsRow w.heap.size 38 3 v pre.length (pre.flatMap cellsK) := hr
    replace hlen : pre.length < N := hlen
    replace hV : W.heap[V]? = some (.cells #[.int .i64 x.1, .int .i64 x.2.1, .int .i64 x.2.2] 38 (0, 0)) := hV
    replace he : a₁ = { tmps := #[.slice none 0 0, .func (.func g) #[] lb, .pointer (some ⟨w.heap.size, 0, none⟩), undef, .slice none 0 0, .pointer (some ⟨V, 0, none⟩), .func (.func g) #[] lb, encK x, undef, undef, undef, undef, undef], defers := [] } := he
    subst he
    have hc := hv.cell
    have hf := hv.frozen
    have v0 : W.cell? ⟨V, 0, none⟩ = some (.int .i64 x.1) := by simp [World.cell?, hV]
    have v1 : W.cell? ⟨V, 1, none⟩ = some (.int .i64 x.2.1) := by simp [World.cell?, hV]
    have v2 : W.cell? ⟨V, 2, none⟩ = some (.int .i64 x.2.2) := by simp [World.cell?, hV]
    have hne0 : v.ownBlock = none ∨ v.ownBlock ≠ (none : Option Nat) := by
      cases v.ownBlock with
      | none => exact .inl rfl
      | some _ => exact .inr (by simp)
    gi_wp2_with (first
      | (gi_at_builtin; refine append_raw _ rfl _ _ 30 rfl w.heap.size 38 Try.t38 (.agg #[.int .i64 0, .int .i64 0, .int .i64 0]) 3 24 Try.underlying30 Try.type38 rfl rfl rfl rfl (by decide) (by decide) _ _ _ rfl (hr.alloc _) (ho.kept hr (World.grownBy_alloc W _ none) hne0) ⟨W.heap.size, 0, none⟩ 1 1 (by decide) (cellsK x) rfl rfl (cell_three W x) (by simp [cellsK, Value.oneCell']) (by have : maxLen = 9223372036854775807 := rfl; omega) (by omega) (by have := hB.size; simp; omega) ?_; intro v' w3 hown' hg3 ho3
         obtain ⟨a1, a2, a3, a4, a5⟩ := Boxed.appended hv (by decide) hr hB.size (Nat.le_refl _) hown' hg3
         have ho4 := ho3.kept hown' (grownBy_setCell' w3 w.heap.size v') (.inr (a1.not_row (by decide) hown').symm)
         obtain ⟨g', cap', rfl⟩ := ownsRow_succ hown'
         have hc3 := a1.cell
         have hf3 := a1.frozen
         go_frame)
      | (rw [Oper.semAt_eq _ _ _ (fun c h => by cases h)]; go_simp; try go_bits))
    refine ⟨⟨⟨_, a2, ?_, ho4⟩, ?_⟩, hB.trans a5⟩
    · simpa using a3
    · omega
  case done =>
    rintro D ys W hD hSy ⟨⟨⟨v, hv, hr, ho⟩, hlen⟩, hB⟩ hK
    have hc := hv.cell
    have hf := hv.frozen
    gi_wp2
    refine ⟨by simp, .inl ⟨_, _, rfl, run_takeDeferred hK, ?_⟩⟩
    have hr2 := ownsRow_putObj hr (.deferred none) hK rfl
    have hne : v.ownBlock = none ∨ v.ownBlock ≠ some D := by
      rcases hr.2 with ⟨rfl, _⟩ | ⟨g2, cap, cur, rfl, _, hgb, _⟩
      · exact .inl rfl
      · refine .inr fun e' => ?_
        obtain rfl : g2 = D := by simpa [Value.ownBlock] using e'
        rw [hgb] at hK; cases hK
    exact ⟨_, results_tmp rfl _ _ _, v, ys, rfl, hSy, hr2, ho.kept hr (grownBy_putObj' W D _) hne, hB.trans (belowK_b (w := w) (Nat.le_refl _) W D _ _ (by simp at hD; omega) hK rfl rfl)⟩
set_option maxHeartbeats 1000000 in
/-- slices.Collect. -/
theorem collect (F : Fence) (n : Nat) (h102 : F.fn 102) (h136 : F.fn 136) (hro : F.round = none) (hn : 3 ≤ n) (g : Nat) (lb : Array Value) (hFg : F.fn g) (eg : ∀ args w, (callFunc g args).run Try.prog w = .ok (.enter g args) w)
    (S Sp : List (Int × Int × Int) → Prop) (N : Nat) (hN : N ≤ 100000) (w : World) (hseq : ∀ w', Below w.heap.size w w' → SeqStopsK F (n - 1 - 1) Try.prog g lb (fun x => #[encK x]) KeepsWalks S Sp N w') :
    CallsIn F n Try.prog 102 #[.func (.func g) #[] lb] w fun e w' => ∃ (v : Value) (ss : List (Int × Int × Int)), e = .returned v ∧ S ss ∧ w'.ownsRow w.heap.size 38 3 v ss.length (ss.flatMap cellsK) ∧ OneRow w' v ∧ Below w.heap.size w w' := by
  have h1 : 1 ≤ n := by omega
  have e136 : ∀ args w, (callFunc 136 args).run Try.prog w = .ok (.enter 136 args) w := enters_of Try.func136 (by kernel_rfl) rfl
  refine callsIn_of_wp Try.func102 rfl h102 ?_ hro
  simp only [Try.ntmps102, List.size_toArray, List.length_cons, List.length_nil, Nat.reduceAdd, Nat.reduceSub, Array.replicate_succ, Array.replicate_zero, List.push_toArray, List.append_toArray, List.nil_append, List.cons_append]
  gi_wp2_with (gi_at_call 136; refine (appendSeq F (n - 1) h136 hro (by omega) g lb hFg eg S Sp N hN w hseq).mono ?_; rintro e w' ⟨v, ss, rfl, hS, hrow, ho, hb⟩)
  go_ret
  exact ⟨v, ss, rfl, hS, hrow, ho, hb⟩
end Go.Proofs.Ytkenimmellonjaa
/- Seat r2: bids. -/
namespace Go.Proofs.Ytkenimmellonjaa
open Go.Pv Go.RowKit
abbrev B := Int × Int
def bidv (b : B) : AV := .agg [.d (.int .i64 b.1), .d (.int .i64 b.2)]
def lessB (a b : B) : Bool := decide (a.2 < b.2) || (a.2 == b.2 && decide (a.1 < b.1))
def sameB (a b : B) : Bool := a.1 == b.1 && a.2 == b.2
def rowB (b : B) : List DV := [.int .i64 b.1, .int .i64 b.2]
def rowsB (l : List B) : List (List DV) := l.map rowB
set_option maxRecDepth 100000 in
theorem lessC (a b : B) : Contract Try.prog G0 109 [bidv a, bidv b] [] (fun r t => r = .d (.bool (lessB a b)) ∧ t = []) := by
  refine run109 0 [] rfl rfl ?_
  conv => whnf
  refine ⟨rd_bool ?_, rfl⟩
  simp only [bif_or, bif_and, lessB]
set_option maxRecDepth 100000 in
theorem sameC (a b : B) : Contract Try.prog G0 124 [bidv a, bidv b] [] (fun r t => r = .d (.bool (sameB a b)) ∧ t = []) := by
  refine run124 0 [] rfl rfl ?_
  conv => whnf
  refine ⟨rd_bool ?_, rfl⟩
  simp only [bif_and, sameB]
set_option maxRecDepth 100000 in
theorem at1 (b : B) (car : Int) : Contract Try.prog G0 139 [bidv b, .d (.ptr [.int .i64 car] 0)] [] (fun r s => r = .d (.bool (b.1 == car)) ∧ s = []) := by
  refine run139 0 [] rfl rfl ?_
  conv => whnf
  exact ⟨rfl, rfl⟩
set_option maxRecDepth 100000 in
theorem put1 (x b : B) : Contract Try.prog G0 118 [bidv x, .d (.ptr (rowB b) 0)] [] (fun r s => r = .d (.bool (decide (x.1 > b.1))) ∧ s = []) := by
  refine run118 0 [] rfl rfl ?_
  conv => whnf
  exact ⟨rfl, rfl⟩
set_option maxRecDepth 100000 in
theorem indexFunc (l : List B) (hl : l.length ≤ 4611686018427387904) (p : B → Bool) (f : Nat) (cs : List DV) (hf : ∀ x, Contract Try.prog G0 f [bidv x, .d (.ptr cs 0)] [] (fun r t => r = .d (.bool (p x)) ∧ t = [])) :
    Contract Try.prog G0 117 [.d (.list 2 (rowsB l)), .fn f [.d (.ptr cs 0)]] [] (fun r t => r = .d (.int .i64 (idxFrom p l 0)) ∧ t = []) := by
  have hlen : (rowsB l).length = l.length := by simp [rowsB]
  refine run117 0 [] rfl rfl ?_
  conv => whnf
  refine StopG.rounds wk117 [] [0, 1, 4, 7, 8] (fun m env s => ∃ i : Nat, i ≤ l.length ∧ m = l.length - i ∧ idxFrom p (l.drop i) i = idxFrom p l 0 ∧
    env = [(0, .d (.list 2 (rowsB l))), (1, .fn f [.d (.ptr cs 0)]), (4, .d (.int .i64 0)), (7, .d (.int .i64 ((rowsB l).length : Int))), (8, .d (.int .i64 (i : Int)))] ∧ s = []) rfl ?_ ?_
  · conv => whnf
    exact ⟨_, 0, Nat.zero_le _, rfl, rfl, rfl, rfl⟩
  rintro m env s ⟨i, hi, rfl, hidx, rfl, rfl⟩
  conv => whnf
  refine bcase_intro (fun h => ?_) (fun h => ?_) <;> conv => whnf
  · have h := lt_of h
    rw [hlen] at h
    obtain ⟨x, hx, hdrop⟩ := at_i h
    refine ⟨rowB x, ⟨by omega, row_i hx⟩, ?_⟩
    conv => whnf
    refine .scal [bidv x, .d (.ptr cs 0)] _ ⟨.refl _, rfl, hf x⟩ ?_
    conv => whnf
    rw [hdrop, idxFrom] at hidx
    refine bcase_intro (fun h2 => ?_) (fun h2 => ?_) <;> conv => whnf
    · rw [if_pos h2] at hidx
      exact ⟨rd_int hidx, rfl⟩
    · rw [succ_i h (by omega)]
      refine ⟨_, by omega, i + 1, h, rfl, ?_, ?_, rfl⟩
      · rw [if_neg (by simp [h2])] at hidx
        exact hidx
      · rfl
  · have h := ge_of h
    rw [hlen] at h
    rw [List.drop_eq_nil_of_le h, idxFrom] at hidx
    exact ⟨rd_int hidx, rfl⟩
set_option maxRecDepth 100000 in
theorem at_ (l : List B) (hl : l.length ≤ 4611686018427387904) (car : Int) : Contract Try.prog G0 112 [.d (.list 2 (rowsB l)), .d (.int .i64 car)] [] (fun r t => r = .d (.int .i64 (idxFrom (fun b => b.1 == car) l 0)) ∧ t = []) := by
  refine run112 0 [] rfl rfl ?_
  conv => whnf
  refine .scal [.d (.list 2 (rowsB l)), .fn 139 [.d (.ptr [.int .i64 car] 0)]] _ ⟨.fz 0 _ rfl (by simp) ⟨trivial, ⟨trivial, trivial⟩, trivial⟩ (.refl _), rfl, indexFunc l hl _ 139 _ fun b => at1 b car⟩ ?_
  conv => whnf
  exact ⟨rfl, rfl⟩
set_option maxRecDepth 100000 in
theorem cloneB_nil : Contract Try.prog G0 114 [.d (.list 2 [])] [] (fun r t => (r = .d .nil ∨ r = .d .emp) ∧ t = []) := by
  refine run114 0 [] rfl rfl ?_
  conv => whnf
  refine ⟨?_, ?_⟩ <;> conv => whnf
  · exact ⟨.inl rfl, rfl⟩
  · refine ⟨⟨by decide, by decide⟩, ?_⟩
    conv => whnf
    exact ⟨.inr rfl, rfl⟩
set_option maxRecDepth 100000 in
theorem cloneB_cons (r0 : List DV) (rs : List (List DV)) (hl : rs.length ≤ 100000) : Contract Try.prog G0 114 [.d (.list 2 (r0 :: rs))] [] (fun r t => ∃ c, rs.length + 1 ≤ c ∧ r = .slc (.g 0) 2 0 (rs.length + 1) c ∧ t = [(0, .row 2 (r0 :: rs))]) := by
  refine run114 0 [] rfl rfl ?_
  conv => whnf
  refine ⟨⟨?_, ?_⟩, ?_⟩
  · show (2 * (rs.length + 1) + 1024) * 16 ≤ 281474976710656; omega
  · show rs.length + 1 ≤ _; omega
  conv => whnf
  intro c hc
  conv => whnf
  exact ⟨c, hc, rfl, rfl⟩
theorem ov140 (x y : Value) (w : World) : (callFunc 140 #[x, y]).run Try.prog w = ((Extern.SlicesOverlaps.overlaps #[70, 70] #[4] #[x, y]).run Try.prog w).andThen fun v w' => .ok (.value v) w' := by
  rw [run_callFunc_extern Try.func140 (by kernel_rfl) (by kernel_rfl) (by kernel_rfl) (e := Extern.SlicesOverlaps.overlaps #[70, 70] #[4]) (by kernel_rfl)]
theorem ins_a {α : Type} (l : List α) (k : Nat) (hk : k < l.length) (x : α) (m : Nat) (hm : m = l.length - k) (zs : List α) (hz : zs.length = l.length + 1 - k) :
    (((l.take k ++ zs).take k ++ [x] ++ (l.take k ++ zs).drop (k + 1)).take (k + 1) ++ (l.drop k).take m ++ ((l.take k ++ zs).take k ++ [x] ++ (l.take k ++ zs).drop (k + 1)).drop (k + 1 + m)).take (l.length + 1) = l.take k ++ x :: l.drop k := by
  subst hm
  have h1 : (l.take k).length = k := by simp; omega
  have e1 : (l.take k ++ zs).take k = l.take k := by rw [List.take_append_of_le_length (by omega), List.take_of_length_le (by omega)]
  rw [e1]
  have e2 : (l.take k ++ [x] ++ (l.take k ++ zs).drop (k + 1)).take (k + 1) = l.take k ++ [x] := by
    rw [List.take_append_of_le_length (by simp; omega), List.take_of_length_le (by simp; omega)]
  have e3 : (l.drop k).take (l.length - k) = l.drop k := List.take_of_length_le (by simp)
  have e4 : (l.take k ++ [x] ++ (l.take k ++ zs).drop (k + 1)).drop (k + 1 + (l.length - k)) = [] := by
    apply List.drop_eq_nil_of_le
    simp [hz]; omega
  rw [e2, e3, e4, List.append_nil, List.take_of_length_le (by simp; omega)]
  simp
theorem ins_b {α : Type} (l : List α) (k : Nat) (hk : k < l.length) (x : α) (m : Nat) (hm : m = l.length - k) :
    ((l.take (k + 1) ++ (l.drop k).take m ++ l.drop (k + 1 + (l.length - k))).take k ++ [x] ++ (l.take (k + 1) ++ (l.drop k).take m ++ l.drop (k + 1 + (l.length - k))).drop (k + 1)).take (l.length + 1) = l.take k ++ x :: l.drop k := by
  subst hm
  have h1 : (l.take (k + 1)).length = k + 1 := by simp; omega
  have e3 : (l.drop k).take (l.length - k) = l.drop k := List.take_of_length_le (by simp)
  have e4 : l.drop (k + 1 + (l.length - k)) = [] := List.drop_eq_nil_of_le (by omega)
  rw [e3, e4, List.append_nil]
  have e5 : (l.take (k + 1) ++ l.drop k).take k = l.take k := by rw [List.take_append_of_le_length (by omega), List.take_take]; congr 1; omega
  have e6 : (l.take (k + 1) ++ l.drop k).drop (k + 1) = l.drop k := by rw [List.drop_append_of_le_length (by omega), List.drop_of_length_le (by omega)]; rfl
  rw [e5, e6, List.take_of_length_le (by simp; omega)]
  simp
set_option maxRecDepth 100000 in
theorem insert_own (rows : List (List DV)) (hl : rows.length ≤ 100000) (k : Nat) (hk : k ≤ rows.length) (c : Nat) (hc : rows.length ≤ c) (x : List DV) :
    Contract Try.prog G0 119 [.slc (.g 0) 2 0 rows.length c, .d (.int .i64 k), .d (.list 2 [x])] [(0, .row 2 rows)] (fun r t => r = .d (.list 2 (rows.take k ++ x :: rows.drop k)) ∧ t = [(0, .dead)]) := by
  refine rung119 1 [] rfl rfl ?_
  conv => whnf
  refine ⟨⟨by omega, by omega, by omega⟩, ?_⟩
  conv => whnf
  have hw1 : IntKind.i64.wrap ((rows.length : Int) + (([x] : List (List DV)).length : Int)) = ((rows.length + 1 : Nat) : Int) := by
    rw [wrap_id (by simp; omega) (by simp; omega)]
    simp
  have hw2 : IntKind.i64.wrap ((k : Int) + (([x] : List (List DV)).length : Int)) = ((k + 1 : Nat) : Int) := by
    rw [wrap_id (by simp; omega) (by simp; omega)]
    simp
  refine bcase_intro (fun h => ?_) (fun h => ?_) <;> conv => whnf
  · have h : k = rows.length := by simp at h; omega
    subst h
    refine ⟨Nat.le_refl _, ⟨?_, ?_⟩, ?_⟩
    · show (2 * (rows.length + 1) + 1024) * 16 ≤ 281474976710656; omega
    · show rows.length + 1 ≤ _; omega
    conv => whnf
    intro c' hc'
    conv => whnf
    refine ⟨_, _, GV.freeze 1 rfl (by simp) (by repeat' first | exact trivial | apply And.intro | (simp; done) | decide | (simp; omega)) (by repeat' first | exact trivial | apply And.intro), ?_⟩
    conv => whnf
    refine ⟨?_, rfl⟩
    show AV.d (.list 2 ((List.drop 0 (List.take rows.length rows ++ [x])).take (rows.length + 1))) = _
    rw [List.drop_zero, List.take_length, List.drop_length, List.take_of_length_le (by simp)]
  · have h : k < rows.length := by simp at h; omega
    rw [hw1]
    refine bcase_intro (fun h2 => ?_) (fun h2 => ?_) <;> conv => whnf
    · have h2 : c < rows.length + 1 := by simp at h2; omega
      refine ⟨⟨by omega, by omega, by omega⟩, ?_⟩
      conv => whnf
      rw [hw1]
      simp -iota only [Int.toNat_natCast, Int.toNat_zero, Nat.sub_zero, Nat.zero_add]
      have hkn : k + (rows.length + 1 - k) = rows.length + 1 := by omega
      refine ⟨rows.length + 1 - k, ⟨?_, by omega, by omega, by omega, ?_, by omega⟩, ?_⟩
      · rw [wrap_id (by omega) (by omega)]; omega
      · show (2 * _ + 1024) * 16 ≤ 281474976710656; omega
      rw [hkn]
      conv => whnf
      intro c1 hc1
      conv => whnf
      refine ⟨⟨by omega, by omega, by omega⟩, ?_⟩
      conv => whnf
      simp -iota only [Int.toNat_natCast, Nat.zero_add]
      refine ⟨by simp; omega, ?_⟩
      conv => whnf
      refine ⟨⟨by omega, by rw [hw2]; omega, by omega⟩, ?_⟩
      conv => whnf
      refine ⟨⟨by omega, by omega, by omega⟩, ?_⟩
      conv => whnf
      rw [hw2]
      simp -iota only [Int.toNat_natCast, Nat.zero_add]
      refine ⟨by simp [splice]; omega, ?_⟩
      conv => whnf
      refine ⟨by omega, ?_⟩
      conv => whnf
      refine ⟨_, _, (GV.freeze 1 rfl (by simp) (by repeat' first | exact trivial | apply And.intro | decide | (simp [splice]; omega)) (by repeat' first | exact trivial | apply And.intro)).trans (GV.kill 0 rfl), ?_⟩
      conv => whnf
      refine ⟨?_, rfl⟩
      refine congrArg (fun q => AV.d (.list 2 q)) ?_
      have := ins_a rows k h x (min (rows.length - k) (rows.length + 1 - (k + 1))) (by omega) (List.replicate (rows.length + 1 - k) ti89.zero) (by simp)
      rw [← this]
      have e1 : ([x] : List (List DV)).take (rows.length + 1 - k) = [x] := List.take_of_length_le (by simp; try omega)
      have e2 : ((rows.drop k).take (min (rows.length - k) (rows.length + 1 - (k + 1)))).length = min (rows.length - k) (rows.length + 1 - (k + 1)) := by simp; try omega
      simp only [splice, e1, List.drop_zero, List.length_singleton, e2]
    · have h2 : rows.length + 1 ≤ c := by simp at h2; omega
      refine ⟨⟨by omega, by rw [hw1]; omega, by rw [hw1]; omega⟩, ?_⟩
      conv => whnf
      refine ⟨⟨by rw [hw2]; omega, by rw [hw1, hw2]; omega, by rw [hw1]; omega⟩, ?_⟩
      conv => whnf
      rw [hw1, hw2]
      simp -iota only [Int.toNat_natCast, Int.toNat_zero, Nat.sub_zero, Nat.zero_add]
      refine .raw rfl ?_
      have q1 : T 70 = some ti70 := by kernel_rfl
      have q2 : T 89 = some ti89 := by kernel_rfl
      refine ej_overlaps (f := 140) (c := .func 140) (tys := #[70, 70]) (t := 70) (tr := 4) (e := 89) (ti := ti70) (te := ti89) (x := .tmp 61) (y := .tmp 66) (sz := 2) (rows := [x]) (id := 0) (off := k + 1) (len := rows.length + 1 - (k + 1)) (cap := c - (k + 1)) (old := rows) tabOK q1 ?_ q2 ov140 ?_ ?_ ?_ ?_ ?_ ?_ ?_
      · rfl
      · rfl
      · rfl
      · rfl
      · decide
      · rfl
      · rfl
      conv => whnf
      refine ⟨⟨by rw [hw2]; omega, by rw [hw2]; omega, by omega⟩, ?_⟩
      conv => whnf
      refine ⟨⟨by omega, by omega, by omega⟩, ?_⟩
      conv => whnf
      rw [hw2]
      simp -iota only [Int.toNat_natCast, Nat.zero_add]
      refine ⟨by omega, ?_⟩
      conv => whnf
      refine ⟨by omega, ?_⟩
      conv => whnf
      refine ⟨⟨by omega, by omega, by omega⟩, ?_⟩
      conv => whnf
      simp -iota only [Int.toNat_natCast, Nat.zero_add]
      refine ⟨by simp [splice]; omega, ?_⟩
      conv => whnf
      have e2 : ((rows.drop k).take (min (rows.length + 1 - k) (rows.length + 1 - (k + 1)))).length = rows.length - k := by simp; omega
      have e1 : ([x] : List (List DV)).take (rows.length + 1 - k) = [x] := List.take_of_length_le (by simp; try omega)
      refine ⟨_, _, GV.freeze 0 rfl (by simp) (by repeat' first | exact trivial | apply And.intro | decide | (simp [splice, e1]; omega)) (by repeat' first | exact trivial | apply And.intro), ?_⟩
      conv => whnf
      refine ⟨?_, rfl⟩
      refine congrArg (fun q => AV.d (.list 2 q)) ?_
      rw [← ins_b rows k h x (min (rows.length + 1 - k) (rows.length + 1 - (k + 1))) (by omega)]
      simp only [splice, e1, List.drop_zero, List.length_singleton, e2]
set_option maxRecDepth 100000 in
theorem insert_none (e : DV) (he : e = .nil ∨ e = .emp) (x : List DV) :
    Contract Try.prog G0 119 [.d e, .d (.int .i64 0), .d (.list 2 [x])] [] (fun r t => r = .d (.list 2 [x]) ∧ t = []) := by
  refine rung119 0 [] rfl rfl ?_
  rcases he with rfl | rfl
  all_goals
    conv => whnf
    refine ⟨⟨by omega, by omega⟩, ?_⟩
    conv => whnf
    refine ⟨⟨?_, ?_⟩, ?_⟩
    · show (2 * 1 + 1024) * 16 ≤ 281474976710656; omega
    · show 1 ≤ _; omega
    conv => whnf
    intro c hc
    conv => whnf
    refine ⟨_, _, GV.freeze 0 rfl (by simp) (by repeat' first | exact trivial | apply And.intro | decide | (simp; done)) (by repeat' first | exact trivial | apply And.intro), ?_⟩
    conv => whnf
    exact ⟨rfl, rfl⟩
theorem idx_ge {α : Type} {p : α → Bool} {l : List α} (h : decide (idxFrom p l 0 ≥ 0) = true) : ∃ k x, idxFrom p l 0 = ((k : Nat) : Int) ∧ l[k]? = .some x ∧ l.find? p = .some x := by
  rcases idx_cases0 p l with ⟨h1, _⟩ | q
  · rw [h1] at h; simp at h
  · exact q
theorem idx_lt {α : Type} {p : α → Bool} {l : List α} (h : decide (idxFrom p l 0 ≥ 0) = false) : idxFrom p l 0 = -1 ∧ l.find? p = .none := by
  rcases idx_cases0 p l with q | ⟨k, x, h1, _⟩
  · exact q
  · rw [h1] at h; simp at h
theorem idx_ge' {α : Type} {p : α → Bool} {l : List α} (h : decide (idxFrom p l 0 < 0) = false) : ∃ k x, idxFrom p l 0 = ((k : Nat) : Int) ∧ l[k]? = .some x ∧ l.find? p = .some x := by
  rcases idx_cases0 p l with ⟨h1, _⟩ | q
  · rw [h1] at h; simp at h
  · exact q
theorem idx_lt' {α : Type} {p : α → Bool} {l : List α} (h : decide (idxFrom p l 0 < 0) = true) : idxFrom p l 0 = -1 ∧ l.find? p = .none := by
  rcases idx_cases0 p l with q | ⟨k, x, h1, _⟩
  · exact q
  · rw [h1] at h; simp at h; omega
def insB (l : List B) (b : B) : List B := match idxFrom (fun x => decide (x.1 > b.1)) l 0 with
  | .ofNat k => l.take k ++ b :: l.drop k
  | .negSucc _ => l ++ [b]
def putB (l : List B) (b : B) : List B × Bool := match l.find? (fun x => x.1 == b.1) with
  | .some _ => (l, false)
  | .none => (insB l b, true)
set_option maxRecDepth 100000 in
theorem put (l : List B) (hl : l.length ≤ 10000) (b : B) : Contract Try.prog G0 88 [.d (.list 2 (rowsB l)), bidv b] [] (fun r t => r = .tup [.d (.list 2 (rowsB (putB l b).1)), .d (.bool (putB l b).2)] ∧ t = []) := by
  have hlen : (rowsB l).length = l.length := by simp [rowsB]
  cases l with
  | nil =>
    refine rung88 0 [] rfl rfl ?_
    conv => whnf
    refine .obj rfl ?_
    conv => whnf
    refine ⟨_, _, ⟨WkL.refl _, cloneB_nil⟩, fun res s1 h => ?_⟩
    obtain ⟨h, rfl⟩ := h
    rcases h with rfl | rfl
    all_goals
      conv => whnf
      refine .scal [.d (.list 2 (rowsB [])), .d (.int .i64 b.1)] _ ⟨.refl _, rfl, at_ [] (by simp) b.1⟩ ?_
      conv => whnf
      refine .scal [.d (.list 2 (rowsB [])), .fn 118 [.d (.ptr (rowB b) 0)]] _ ⟨.fz 0 _ rfl (by simp) (by repeat' first | exact trivial | apply And.intro) (.refl _), rfl, indexFunc [] (by simp) _ 118 _ fun x => put1 x b⟩ ?_
      conv => whnf
      refine .data _ (.d (.list 2 [rowB b])) ⟨WkL.refl _, rfl, insert_none _ (by simp) (rowB b)⟩ ?_
      conv => whnf
      refine ⟨_, _, .refl, ?_⟩
      conv => whnf
      exact ⟨rfl, rfl⟩
  | cons b0 l0 =>
    have hl0 : l0.length + 1 ≤ 10000 := by simpa using hl
    refine rung88 0 [] rfl rfl ?_
    conv => whnf
    refine .obj rfl ?_
    conv => whnf
    refine ⟨_, _, ⟨WkL.refl _, cloneB_cons (rowB b0) (rowsB l0) (by simp [rowsB]; omega)⟩, fun res s1 h => ?_⟩
    obtain ⟨c, hc, rfl, rfl⟩ := h
    conv => whnf
    refine .scal [.d (.list 2 (rowsB (b0 :: l0))), .d (.int .i64 b.1)] _ ⟨.refl _, rfl, at_ (b0 :: l0) (by simp; omega) b.1⟩ ?_
    conv => whnf
    refine bcase_intro (fun h => ?_) (fun h => ?_)
    · obtain ⟨k, x, h1, h2, h3⟩ := idx_ge h
      conv => whnf
      refine ⟨_, _, GV.freeze 1 rfl (by simp) (by repeat' first | exact trivial | apply And.intro | decide | (simp; done)) (by repeat' first | exact trivial | apply And.intro), ?_⟩
      conv => whnf
      have hp : putB (b0 :: l0) b = (b0 :: l0, false) := by simp only [putB, h3]
      rw [hp]
      refine ⟨?_, rfl⟩
      refine congrArg (fun q => AV.tup [AV.d (.list 2 q), AV.d (.bool false)]) ?_
      rw [List.drop_zero, List.take_of_length_le (by simp)]
      rfl
    · obtain ⟨h1, h2⟩ := idx_lt h
      conv => whnf
      refine .scal [.d (.list 2 (rowsB (b0 :: l0))), .fn 118 [.d (.ptr (rowB b) 0)]] _ ⟨.fz 0 _ rfl (by simp) (by repeat' first | exact trivial | apply And.intro) (.refl _), rfl, indexFunc (b0 :: l0) (by simp; omega) _ 118 _ fun x => put1 x b⟩ ?_
      conv => whnf
      refine bcase_intro (fun h => ?_) (fun h => ?_)
      · obtain ⟨g1, g2⟩ := idx_lt' h
        conv => whnf
        refine .obj rfl ?_
        conv => whnf
        refine ⟨_, _, ⟨WkL.refl _, insert_own (rowB b0 :: rowsB l0) (by simp [rowsB]; omega) ((rowsB l0).length + 1) (by simp) c hc (rowB b)⟩, fun res s1 h => ?_⟩
        obtain ⟨rfl, rfl⟩ := h
        conv => whnf
        refine ⟨_, _, .refl, ?_⟩
        conv => whnf
        refine ⟨?_, rfl⟩
        have hp : putB (b0 :: l0) b = (b0 :: l0 ++ [b], true) := by
          simp only [putB, h2, insB, g1]
          rfl
        rw [hp]
        refine congrArg (fun q => AV.tup [AV.d (.list 2 q), AV.d (.bool true)]) ?_
        rw [show rowB b0 :: rowsB l0 = rowsB (b0 :: l0) from rfl, List.take_of_length_le (by simp [rowsB]), List.drop_eq_nil_of_le (by simp [rowsB])]
        simp [rowsB]
      · obtain ⟨k, x, g1, g2, g3⟩ := idx_ge' h
        conv => whnf
        rw [g1]
        have hk := (List.getElem?_eq_some_iff.1 g2).1
        simp only [List.length_cons] at hk
        refine .obj rfl ?_
        conv => whnf
        refine ⟨_, _, ⟨WkL.refl _, insert_own (rowB b0 :: rowsB l0) (by simp [rowsB]; omega) k (by simp [rowsB]; omega) c hc (rowB b)⟩, fun res s1 h => ?_⟩
        obtain ⟨rfl, rfl⟩ := h
        conv => whnf
        refine ⟨_, _, .refl, ?_⟩
        conv => whnf
        refine ⟨?_, rfl⟩
        have hp : putB (b0 :: l0) b = ((b0 :: l0).take k ++ b :: (b0 :: l0).drop k, true) := by
          simp only [putB, h2, insB, g1]
        rw [hp]
        refine congrArg (fun q => AV.tup [AV.d (.list 2 q), AV.d (.bool true)]) ?_
        rw [show rowB b0 :: rowsB l0 = rowsB (b0 :: l0) from rfl]
        simp [rowsB, List.map_take, List.map_drop]
def ofB (l : List B) (car : Int) : B × Bool := match l.find? (fun x => x.1 == car) with
  | .some b => (b, true)
  | .none => ((0, 0), false)
set_option maxRecDepth 100000 in
theorem of_ (l : List B) (hl : l.length ≤ 4611686018427387904) (car : Int) : Contract Try.prog G0 86 [.d (.list 2 (rowsB l)), .d (.int .i64 car)] [] (fun r t => r = .tup [bidv (ofB l car).1, .d (.bool (ofB l car).2)] ∧ t = []) := by
  refine run86 0 [] rfl rfl ?_
  conv => whnf
  refine .scal [.d (.list 2 (rowsB l)), .d (.int .i64 car)] _ ⟨.refl _, rfl, at_ l hl car⟩ ?_
  conv => whnf
  refine bcase_intro (fun h => ?_) (fun h => ?_)
  · obtain ⟨h1, h2⟩ := idx_lt' h
    conv => whnf
    rw [show ofB l car = ((0, 0), false) by simp only [ofB, h2]]
    exact ⟨rfl, rfl⟩
  · obtain ⟨k, x, h1, h2, h3⟩ := idx_ge' h
    conv => whnf
    rw [h1]
    refine ⟨rowB x, ⟨by omega, row_i h2⟩, ?_⟩
    conv => whnf
    rw [show ofB l car = (x, true) by simp only [ofB, h3]]
    exact ⟨rfl, rfl⟩
set_option maxRecDepth 100000 in
theorem indexInt (l : List Int) (hl : l.length ≤ 4611686018427387904) (p : Int → Bool) (f : Nat) (cs : List DV) (hf : ∀ x, Contract Try.prog G0 f [.d (.int .i64 x), .d (.ptr cs 0)] [] (fun r t => r = .d (.bool (p x)) ∧ t = [])) :
    Contract Try.prog G0 138 [.d (.list 1 (rowsI l)), .fn f [.d (.ptr cs 0)]] [] (fun r t => r = .d (.int .i64 (idxFrom p l 0)) ∧ t = []) := by
  have hlen : (rowsI l).length = l.length := by simp [rowsI]
  refine run138 0 [] rfl rfl ?_
  conv => whnf
  refine StopG.rounds wk138 [] [0, 1, 4, 7, 8] (fun m env s => ∃ i : Nat, i ≤ l.length ∧ m = l.length - i ∧ idxFrom p (l.drop i) i = idxFrom p l 0 ∧
    env = [(0, .d (.list 1 (rowsI l))), (1, .fn f [.d (.ptr cs 0)]), (4, .d (.int .i64 0)), (7, .d (.int .i64 ((rowsI l).length : Int))), (8, .d (.int .i64 (i : Int)))] ∧ s = []) rfl ?_ ?_
  · conv => whnf
    exact ⟨_, 0, Nat.zero_le _, rfl, rfl, rfl, rfl⟩
  rintro m env s ⟨i, hi, rfl, hidx, rfl, rfl⟩
  conv => whnf
  refine bcase_intro (fun h => ?_) (fun h => ?_) <;> conv => whnf
  · have h := lt_of h
    rw [hlen] at h
    obtain ⟨x, hx, hdrop⟩ := at_i h
    refine ⟨rowI x, ⟨by omega, row_i hx⟩, ?_⟩
    conv => whnf
    refine .scal [.d (.int .i64 x), .d (.ptr cs 0)] _ ⟨.refl _, rfl, hf x⟩ ?_
    conv => whnf
    rw [hdrop, idxFrom] at hidx
    refine bcase_intro (fun h2 => ?_) (fun h2 => ?_) <;> conv => whnf
    · rw [if_pos h2] at hidx
      exact ⟨rd_int hidx, rfl⟩
    · rw [succ_i h (by omega)]
      refine ⟨_, by omega, i + 1, h, rfl, ?_, ?_, rfl⟩
      · rw [if_neg (by simp [h2])] at hidx
        exact hidx
      · rfl
  · have h := ge_of h
    rw [hlen] at h
    rw [List.drop_eq_nil_of_le h, idxFrom] at hidx
    exact ⟨rd_int hidx, rfl⟩
set_option maxRecDepth 100000 in
theorem anyInt (l : List Int) (hl : l.length ≤ 4611686018427387904) (p : Int → Bool) (f : Nat) (cs : List DV) (hf : ∀ x, Contract Try.prog G0 f [.d (.int .i64 x), .d (.ptr cs 0)] [] (fun r t => r = .d (.bool (p x)) ∧ t = [])) :
    Contract Try.prog G0 110 [.d (.list 1 (rowsI l)), .fn f [.d (.ptr cs 0)]] [] (fun r t => r = .d (.bool (l.any p)) ∧ t = []) := by
  refine run110 0 [] rfl rfl ?_
  conv => whnf
  refine .scal [.d (.list 1 (rowsI l)), .fn f [.d (.ptr cs 0)]] _ ⟨.refl _, rfl, indexInt l hl p f cs hf⟩ ?_
  conv => whnf
  exact ⟨rd_bool (idx_any p l), rfl⟩
set_option maxRecDepth 100000 in
theorem full1 (l : List B) (hl : l.length ≤ 4611686018427387904) (x : Int) : Contract Try.prog G0 111 [.d (.int .i64 x), .d (.ptr [.list 2 (rowsB l)] 0)] [] (fun r t => r = .d (.bool (!l.any fun b => b.1 == x)) ∧ t = []) := by
  refine run111 0 [] rfl rfl ?_
  conv => whnf
  refine .scal [.d (.list 2 (rowsB l)), .d (.int .i64 x)] _ ⟨.refl _, rfl, at_ l hl x⟩ ?_
  conv => whnf
  refine ⟨rd_bool ?_, rfl⟩
  rw [← idx_any]
  rcases idx_cases0 (fun b : B => b.1 == x) l with ⟨h, _⟩ | ⟨k, x, h, _, g⟩ <;> rw [h]
  · rfl
  · simp
def fullB (ms : List Int) (l : List B) : Bool := !ms.any fun x => !l.any fun b => b.1 == x
set_option maxRecDepth 100000 in
theorem full (ms : List Int) (hm : ms.length ≤ 4611686018427387904) (l : List B) (hl : l.length ≤ 4611686018427387904) : Contract Try.prog G0 82 [.d (.list 1 (rowsI ms)), .d (.list 2 (rowsB l))] [] (fun r t => r = .d (.bool (fullB ms l)) ∧ t = []) := by
  refine run82 0 [] rfl rfl ?_
  conv => whnf
  refine .scal [.d (.list 1 (rowsI ms)), .fn 111 [.d (.ptr [.list 2 (rowsB l)] 0)]] _ ⟨.fz 0 _ rfl (by simp) (by repeat' first | exact trivial | apply And.intro) (.refl _), rfl, anyInt ms hm _ 111 _ fun x => full1 l hl x⟩ ?_
  conv => whnf
  exact ⟨rfl, rfl⟩
def leastFrom (best : B) : List B → B
  | [] => best
  | b :: r => leastFrom (if lessB b best then b else best) r
def leastB : List B → B × Bool
  | [] => ((0, 0), false)
  | b :: r => (leastFrom b r, true)
set_option maxRecDepth 100000 in
theorem least (l : List B) (hl : l.length ≤ 4611686018427387904) : Contract Try.prog G0 81 [.d (.list 2 (rowsB l))] [] (fun r t => r = .tup [bidv (leastB l).1, .d (.bool (leastB l).2)] ∧ t = []) := by
  have hlen : (rowsB l).length = l.length := by simp [rowsB]
  refine run81 0 [] rfl rfl ?_
  conv => whnf
  cases l with
  | nil =>
    conv => whnf
    exact ⟨rfl, rfl⟩
  | cons b0 r0 =>
  conv => whnf
  generalize hb : b0 :: r0 = l at hl hlen
  have hbest : leastFrom b0 (l.drop 0) = (leastB l).1 := by
    rw [← hb]; simp [leastFrom, leastB]
  have h2 : (leastB l).2 = true := by rw [← hb]; rfl
  rw [h2]
  refine ⟨rowB b0, ⟨by omega, by rw [← hb]; rfl⟩, ?_⟩
  conv => whnf
  refine StopG.rounds wk81 [] [0, 2, 3, 4, 14, 15, 16] (fun m env s => ∃ (i : Nat) (best : B), i ≤ l.length ∧ m = l.length - i ∧ leastFrom best (l.drop i) = (leastB l).1 ∧
    env = [(0, .d (.list 2 (rowsB l))), (2, .ref (.g 0) 0), (3, .d (.bool false)), (4, .ref (.g 1) 0), (14, .d (.list 2 (rowsB l))), (15, .d (.int .i64 ((rowsB l).length : Int))), (16, .d (.int .i64 i))] ∧
    s = [(0, .cells [.d (.int .i64 0), .d (.int .i64 0)]), (1, .cells [.d (.int .i64 best.1), .d (.int .i64 best.2)])]) rfl ?_ ?_
  · conv => whnf
    exact ⟨_, 0, b0, Nat.zero_le _, rfl, hbest, rfl, rfl⟩
  rintro m env s ⟨i, best, hi, rfl, hbest, rfl, rfl⟩
  conv => whnf
  refine bcase_intro (fun h => ?_) (fun h => ?_) <;> conv => whnf
  · have h := lt_of h
    rw [hlen] at h
    obtain ⟨x, hx, hdrop⟩ := at_i h
    refine ⟨rowB x, ⟨by omega, row_i hx⟩, ?_⟩
    conv => whnf
    refine .scal [bidv x, bidv best] _ ⟨.refl _, rfl, lessC _ _⟩ ?_
    conv => whnf
    rw [hdrop, leastFrom] at hbest
    refine bcase_intro (fun h2 => ?_) (fun h2 => ?_) <;> conv => whnf
    · rw [if_pos h2] at hbest
      rw [succ_i h (by omega)]
      refine ⟨_, by omega, i + 1, x, h, rfl, hbest, ?_, ?_⟩
      · rfl
      · rfl
    · rw [if_neg (by simp [h2])] at hbest
      rw [succ_i h (by omega)]
      refine ⟨_, by omega, i + 1, best, h, rfl, hbest, ?_, ?_⟩
      · rfl
      · rfl
  · have h := ge_of h
    rw [hlen] at h
    rw [List.drop_eq_nil_of_le h, leastFrom] at hbest
    rw [← hbest]
    exact ⟨rfl, rfl⟩
end Go.Proofs.Ytkenimmellonjaa
/- Seat r2: sets of ints. -/
namespace Go.Proofs.Ytkenimmellonjaa
open Go.Pv Go.RowKit

theorem clone_nil : Contract Try.prog G0 67 [.d (.list 1 [])] [] (fun r t => (r = .d .nil ∨ r = .d .emp) ∧ t = []) := by
  refine con67 0 rfl rfl ?_
  conv => whnf
  refine ⟨?_, ?_⟩ <;> conv => whnf
  · exact ⟨.inl rfl, rfl⟩
  · refine ⟨⟨by decide, by decide⟩, ?_⟩
    conv => whnf
    exact ⟨.inr rfl, rfl⟩
theorem clone_cons (r0 : List DV) (rs : List (List DV)) (hl : rs.length ≤ 100000) : Contract Try.prog G0 67 [.d (.list 1 (r0 :: rs))] [] (fun r t => ∃ c, rs.length + 1 ≤ c ∧ r = .slc (.g 0) 1 0 (rs.length + 1) c ∧ t = [(0, .row 1 (r0 :: rs))]) := by
  refine con67 0 rfl rfl ?_
  conv => whnf
  refine ⟨⟨?_, ?_⟩, ?_⟩
  · show (2 * (rs.length + 1) + 1024) * 8 ≤ 281474976710656; omega
  · show rs.length + 1 ≤ _; omega
  conv => whnf
  intro c hc
  conv => whnf
  exact ⟨c, hc, rfl, rfl⟩
theorem index (l : List Int) (hl : l.length ≤ 4611686018427387904) (x : Int) : Contract Try.prog G0 70 [.d (.list 1 (rowsI l)), .d (.int .i64 x)] [] (fun r t => r = .d (.int .i64 (idxFrom (fun y => x == y) l 0)) ∧ t = []) := by
  have hlen := rowsI_len l
  refine con70 0 rfl rfl ?_
  conv => whnf
  refine V.rounds (fun m env s => ∃ i : Nat, i ≤ l.length ∧ m = l.length - i ∧ idxFrom (fun y => x == y) (l.drop i) i = idxFrom (fun y => x == y) l 0 ∧
    env = [(0, .d (.list 1 (rowsI l))), (1, .d (.int .i64 x)), (4, .d (.int .i64 0)), (5, .undef), (7, .d (.int .i64 ((rowsI l).length : Int))), (8, .d (.int .i64 (i : Int))), (9, .undef), (16, .undef)] ∧ s = [])
    ⟨_, _, GV.drop [0, 1, 4, 7, 8], _, 0, Nat.zero_le _, rfl, rfl, rfl, rfl⟩ ?_
  rintro m env s ⟨i, hi, rfl, hidx, rfl, rfl⟩
  refine V.of (kt := kt70) tabOK mixed (by kernel_rfl) ?_
  conv => whnf
  refine bcase_intro (fun h => ?_) (fun h => ?_) <;> conv => whnf
  · have h := lt_of h
    rw [hlen] at h
    obtain ⟨y, hy, hdrop⟩ := at_i h
    refine ⟨rowI y, ⟨by omega, row_i hy⟩, ?_⟩
    conv => whnf
    rw [hdrop, idxFrom] at hidx
    refine bcase_intro (fun h2 => ?_) (fun h2 => ?_) <;> conv => whnf
    · rw [if_pos h2] at hidx
      exact ⟨rd_int hidx, rfl⟩
    · refine ⟨_, _, GV.drop [0, 1, 4, 7, 8], _, by omega, i + 1, h, rfl, ?_, ?_, rfl⟩
      · rw [if_neg (by simp [h2])] at hidx
        exact hidx
      · rw [← succ_i h hl]; rfl
  · have h := ge_of h
    rw [hlen] at h
    rw [List.drop_eq_nil_of_le h, idxFrom] at hidx
    exact ⟨rd_int hidx, rfl⟩
theorem contains (l : List Int) (hl : l.length ≤ 4611686018427387904) (x : Int) : Contract Try.prog G0 72 [.d (.list 1 (rowsI l)), .d (.int .i64 x)] [] (fun r t => r = .d (.bool (l.any fun y => x == y)) ∧ t = []) := by
  refine con72 0 rfl rfl ?_
  conv => whnf
  refine .inl (.inl ⟨[.d (.list 1 (rowsI l)), .d (.int .i64 x)], _, ⟨.refl _, rfl, index l hl x⟩, ?_⟩)
  conv => whnf
  exact ⟨rd_bool (idx_any _ _), rfl⟩
theorem has (l : List Int) (hl : l.length ≤ 4611686018427387904) (x : Int) : Contract Try.prog G0 23 [.d (.list 1 (rowsI l)), .d (.int .i64 x)] [] (fun r t => r = .d (.bool (l.any fun y => x == y)) ∧ t = []) := by
  refine con23 0 rfl rfl ?_
  conv => whnf
  refine .inl (.inl ⟨[.d (.list 1 (rowsI l)), .d (.int .i64 x)], _, ⟨.refl _, rfl, contains l hl x⟩, ?_⟩)
  conv => whnf
  exact ⟨rfl, rfl⟩
theorem among (l : List Int) (hl : l.length ≤ 4611686018427387904) (x : Int) : Contract Try.prog G0 21 [.d (.list 1 (rowsI l)), .d (.int .i64 x)] [] (fun r t => r = .d (.bool (l.any fun y => y == x)) ∧ t = []) := by
  have hlen := rowsI_len l
  refine con21 0 rfl rfl ?_
  conv => whnf
  refine V.rounds (fun m env s => ∃ i : Nat, i ≤ l.length ∧ m = l.length - i ∧ (l.drop i).any (fun y => y == x) = l.any (fun y => y == x) ∧
    env = [(0, .d (.list 1 (rowsI l))), (1, .d (.int .i64 x)), (4, .d (.bool false)), (5, .d (.int .i64 (i : Int))), (9, .undef), (17, .undef)] ∧ s = [])
    ⟨_, _, GV.drop [0, 1, 4, 5], _, 0, Nat.zero_le _, rfl, rfl, rfl, rfl⟩ ?_
  rintro m env s ⟨i, hi, rfl, hidx, rfl, rfl⟩
  refine V.of (kt := kt21) tabOK mixed (by kernel_rfl) ?_
  conv => whnf
  refine bcase_intro (fun h => ?_) (fun h => ?_) <;> conv => whnf
  · have h := lt_of h
    rw [hlen] at h
    obtain ⟨y, hy, hdrop⟩ := at_i h
    refine ⟨rowI y, ⟨by omega, row_i hy⟩, ?_⟩
    conv => whnf
    rw [hdrop, List.any_cons] at hidx
    refine bcase_intro (fun h2 => ?_) (fun h2 => ?_) <;> conv => whnf
    · rw [h2, Bool.true_or] at hidx
      exact ⟨rd_bool hidx, rfl⟩
    · refine ⟨_, _, GV.drop [0, 1, 4, 5], _, by omega, i + 1, h, rfl, ?_, ?_, rfl⟩
      · rw [h2, Bool.false_or] at hidx
        exact hidx
      · rw [← succ_i h hl]; rfl
  · have h := ge_of h
    rw [hlen] at h
    rw [List.drop_eq_nil_of_le h] at hidx
    exact ⟨rd_bool hidx, rfl⟩
theorem number (n : Int) (m : Nat) (hm : 0 < m) (hm2 : m ≤ 4611686018427387904) : Contract Try.prog G0 24 [.d (.int .i64 n), .d (.int .i64 (m : Int))] [] (fun r t => r = .d (.int .i64 (numB n m : Int)) ∧ t = []) := by
  refine con24 0 rfl rfl ?_
  conv => whnf
  refine ⟨⟨rfl, by omega⟩, ?_⟩
  conv => whnf
  refine bcase_intro (fun h => ?_) (fun h => ?_) <;> conv => whnf
  · have h := of_decide_eq_true h
    have h1 := Int.lt_tmod_of_pos n (show (0 : Int) < (m : Int) by omega)
    refine ⟨?_, rfl⟩
    rw [wrap_id (by omega) (by omega)]
    refine rd_int ?_
    unfold numB
    rw [if_pos h]
    omega
  · have h := of_decide_eq_false h
    refine ⟨rd_int ?_, rfl⟩
    unfold numB
    rw [if_neg h]
    omega
theorem next (l : List Int) (hl : l.length ≤ 1000000) (x : Int) : Contract Try.prog G0 20 [.d (.list 1 (rowsI l)), .d (.int .i64 x)] []
    (fun r t => r = .tup [.d (.int .i64 (match idxFrom (fun y => x == y) l 0 with | .ofNat k => (l[(k + 1) % l.length]?).getD 0 | .negSucc _ => 0)), .d (.bool (l.any fun y => x == y))] ∧ t = []) := by
  have hlen := rowsI_len l
  refine con20 0 rfl rfl ?_
  conv => whnf
  refine .inl (.inl ⟨[.d (.list 1 (rowsI l)), .d (.int .i64 x)], _, ⟨.refl _, rfl, index l (by omega) x⟩, ?_⟩)
  conv => whnf
  rw [← idx_any]
  rcases idx_cases0 (fun y => x == y) l with ⟨h1, h2⟩ | ⟨k, y, h1, h2, h3⟩ <;> rw [h1]
  · conv => whnf
    exact ⟨rfl, rfl⟩
  · rw [decide_eq_false (show ¬ (k : Int) < 0 by omega)]
    conv => whnf
    have hk := (List.getElem?_eq_some_iff.1 h2).1
    refine ⟨⟨rfl, by rw [hlen]; omega⟩, ?_⟩
    conv => whnf
    have hw : Int.tmod (IntKind.i64.wrap ((k : Int) + 1)) ((rowsI l).length : Int) = (((k + 1) % l.length : Nat) : Int) := by
      rw [wrap_id (by omega) (by omega), hlen, Int.tmod_eq_emod_of_nonneg (by omega)]
      simp
    rw [hw]
    obtain ⟨z, hz⟩ := list_has l ((k + 1) % l.length) (Nat.mod_lt _ (by omega))
    refine ⟨rowI z, ⟨by omega, row_i hz⟩, ?_⟩
    conv => whnf
    refine ⟨?_, rfl⟩
    rw [show ((k : Nat) : Int) = Int.ofNat k from rfl]
    simp only [hz]
    rfl
end Go.Proofs.Ytkenimmellonjaa
/- The library that this program reaches, as the kit's shelf wants it laid: printed by a program. -/
namespace Go.Proofs.Ytkenimmellonjaa
open Go.Shelf
def lays189_ren : Ren :=
  {
    f := fun x =>
      match x with
      | 189 => 68
      | 125 => 101
      | 257 => 100
      | 128 => 134
      | 129 => 135
      | 294 => 125
      | 295 => 126
      | 296 => 127
      | 297 => 128
      | 298 => 129
      | 299 => 130
      | 216 => 131
      | 300 => 132
      | 301 => 133
      | 328 => 145
      | 329 => 146
      | 330 => 147
      | 331 => 148
      | 332 => 149
      | 215 => 121
      | 343 => 160
      | n => n,
    t := fun x =>
      match x with
      | 28 => 22
      | 3 => 3
      | 46 => 130
      | 0 => 0
      | 51 => 155
      | 53 => 157
      | 4 => 4
      | 183 => 149
      | 182 => 148
      | 131 => 25
      | 5 => 5
      | 9 => 9
      | 218 => 163
      | 222 => 167
      | 228 => 174
      | 229 => 175
      | n => n,
    g := fun x =>
      have n := x;
      n }
theorem lays189 : Lays.n189 Try.prog lays189_ren :=
  { mixed := Eq.refl true, f125 := Eq.trans Try.func101 (congrArg some (Eq.refl (Body.n125 lays189_ren))),
    f128 := Eq.trans Try.func134 (congrArg some (Eq.refl (Body.n128 lays189_ren))),
    f129 := Eq.trans Try.func135 (congrArg some (Eq.refl (Body.n129 lays189_ren))),
    f189 := Eq.trans Try.func68 (congrArg some (Eq.refl (Body.n189 lays189_ren))),
    f215 := Eq.trans Try.func121 (congrArg some (Eq.refl (Body.n215 lays189_ren))),
    f216 := Eq.trans Try.func131 (congrArg some (Eq.refl (Body.n216 lays189_ren))),
    f257 := Eq.trans Try.func100 (congrArg some (Eq.refl (Body.n257 lays189_ren))),
    f294 := Eq.trans Try.func125 (congrArg some (Eq.refl (Body.n294 lays189_ren))),
    f295 := Eq.trans Try.func126 (congrArg some (Eq.refl (Body.n295 lays189_ren))),
    f296 := Eq.trans Try.func127 (congrArg some (Eq.refl (Body.n296 lays189_ren))),
    f297 := Eq.trans Try.func128 (congrArg some (Eq.refl (Body.n297 lays189_ren))),
    f298 := Eq.trans Try.func129 (congrArg some (Eq.refl (Body.n298 lays189_ren))),
    f299 := Eq.trans Try.func130 (congrArg some (Eq.refl (Body.n299 lays189_ren))),
    f300 := Eq.trans Try.func132 (congrArg some (Eq.refl (Body.n300 lays189_ren))),
    f301 := Eq.trans Try.func133 (congrArg some (Eq.refl (Body.n301 lays189_ren))),
    f328 := Eq.trans Try.func145 (congrArg some (Eq.refl (Body.n328 lays189_ren))),
    f329 := Eq.trans Try.func146 (congrArg some (Eq.refl (Body.n329 lays189_ren))),
    f330 := Eq.trans Try.func147 (congrArg some (Eq.refl (Body.n330 lays189_ren))),
    f331 := Eq.trans Try.func148 (congrArg some (Eq.refl (Body.n331 lays189_ren))),
    f332 := Eq.trans Try.func149 (congrArg some (Eq.refl (Body.n332 lays189_ren))),
    f343 := Eq.trans Try.func160 (congrArg some (Eq.refl (Body.n343 lays189_ren))), t0 := Try.underlying0,
    a0 := Try.isAgg0, z0 := Try.sizeOf0, v0 := Try.zeroValue0, t3 := Try.underlying3, a3 := Try.isAgg3, z3 := Try.sizeOf3,
    v3 := Try.zeroValue3, t4 := Try.underlying4, a4 := Try.isAgg4, z4 := Try.sizeOf4, v4 := Try.zeroValue4,
    t5 := Try.underlying5, a5 := Try.isAgg5, z5 := Try.sizeOf5, v5 := Try.zeroValue5, t9 := Try.underlying9,
    a9 := Try.isAgg9, z9 := Try.sizeOf9, v9 := Try.zeroValue9, t28 := Try.underlying22, a28 := Try.isAgg22,
    z28 := Try.sizeOf22, v28 := Try.zeroValue22, t46 := Try.underlying130, a46 := Try.isAgg130, z46 := Try.sizeOf130,
    v46 := Try.zeroValue130, t51 := Try.underlying155, a51 := Try.isAgg155, z51 := Try.sizeOf155, v51 := Try.zeroValue155,
    t53 := Try.underlying157, a53 := Try.isAgg157, z53 := Try.sizeOf157, v53 := Try.zeroValue157,
    t131 := Try.underlying25, a131 := Try.isAgg25, z131 := Try.sizeOf25, v131 := Try.zeroValue25,
    t182 := Try.underlying148, a182 := Try.isAgg148, z182 := Try.sizeOf148, v182 := Try.zeroValue148,
    t183 := Try.underlying149, a183 := Try.isAgg149, z183 := Try.sizeOf149, v183 := Try.zeroValue149,
    t218 := Try.underlying163, a218 := Try.isAgg163, z218 := Try.sizeOf163, v218 := Try.zeroValue163,
    t222 := Try.underlying167, a222 := Try.isAgg167, z222 := Try.sizeOf167, v222 := Try.zeroValue167,
    t228 := Try.underlying174, a228 := Try.isAgg174, z228 := Try.sizeOf174, v228 := Try.zeroValue174,
    t229 := Try.underlying175, a229 := Try.isAgg175, z229 := Try.sizeOf175, v229 := Try.zeroValue175 }
end Go.Proofs.Ytkenimmellonjaa
/- Seat r2: sorting, compacting, sets. -/
namespace Go.Proofs.Ytkenimmellonjaa
open Go.Pv Go.RowKit Go.Shelf

theorem equal (a b : List Int) (ha : a.length ≤ 4611686018427387904) : Contract Try.prog G0 71 [.d (.list 1 (rowsI a)), .d (.list 1 (rowsI b))] [] (fun r t => r = .d (.bool (a == b)) ∧ t = []) := by
  have hlen := rowsI_len a
  have hlen2 := rowsI_len b
  refine con71 0 rfl rfl ?_
  conv => whnf
  refine bcase_intro (fun h => ?_) (fun h => ?_) <;> conv => whnf
  · rw [hlen, hlen2] at h
    refine ⟨rd_bool ?_, rfl⟩
    symm
    rw [beq_eq_false_iff_ne]
    rintro rfl
    simp at h
  have hab : a.length = b.length := by
    rw [hlen, hlen2] at h
    simp at h
    omega
  refine V.rounds (fun m env s => ∃ i : Nat, i ≤ a.length ∧ m = a.length - i ∧ a.take i = b.take i ∧
    env = [(0, .d (.list 1 (rowsI a))), (1, .d (.list 1 (rowsI b))), (4, .d (.bool false)), (5, .undef), (10, .undef), (12, .d (.int .i64 ((rowsI a).length : Int))), (13, .d (.int .i64 (i : Int))), (14, .undef), (24, .undef)] ∧ s = [])
    ⟨_, _, GV.drop [0, 1, 4, 12, 13], _, 0, Nat.zero_le _, rfl, rfl, rfl, rfl⟩ ?_
  rintro m env s ⟨i, hi, rfl, heq, rfl, rfl⟩
  refine V.of (kt := kt71) tabOK mixed (by kernel_rfl) ?_
  conv => whnf
  refine bcase_intro (fun h => ?_) (fun h => ?_) <;> conv => whnf
  · have h := lt_of h
    rw [hlen] at h
    obtain ⟨x, hx, hdrop⟩ := at_i h
    obtain ⟨y, hy, hdrop2⟩ := at_i (l := b) (i := i) (by omega)
    refine ⟨rowI x, ⟨by omega, row_i hx⟩, ?_⟩
    conv => whnf
    refine ⟨rowI y, ⟨by omega, row_i hy⟩, ?_⟩
    conv => whnf
    refine bcase_intro (fun h2 => ?_) (fun h2 => ?_) <;> conv => whnf
    · refine ⟨rd_bool ?_, rfl⟩
      symm
      rw [beq_eq_false_iff_ne]
      intro e
      subst e
      rw [hx] at hy
      cases hy
      simp at h2
    · refine ⟨_, _, GV.drop [0, 1, 4, 12, 13], _, by omega, i + 1, h, rfl, ?_, ?_, rfl⟩
      · have h2 : x = y := by simpa using h2
        rw [List.take_add_one, List.take_add_one, heq, hx, hy, h2]
      · rw [← succ_i h ha]; rfl
  · have h := ge_of h
    rw [hlen] at h
    refine ⟨rd_bool ?_, rfl⟩
    rw [List.take_of_length_le h, List.take_of_length_le (by omega)] at heq
    symm
    simp [heq]
theorem same22 (a b : List Int) (ha : a.length ≤ 4611686018427387904) : Contract Try.prog G0 22 [.d (.list 1 (rowsI a)), .d (.list 1 (rowsI b))] [] (fun r t => r = .d (.bool (a == b)) ∧ t = []) := by
  refine con22 0 rfl rfl ?_
  conv => whnf
  refine .inl (.inl ⟨[.d (.list 1 (rowsI a)), .d (.list 1 (rowsI b))], _, ⟨.refl _, rfl, equal a b ha⟩, ?_⟩)
  conv => whnf
  exact ⟨rfl, rfl⟩
theorem sort68 (l : List Int) (hl : l.length < 4611686018427387904) (cap : Nat) : Contract Try.prog G0 68 [.slc (.g 0) 1 0 l.length cap] [(0, .row 1 (rowsI l))] (fun r t => r = .tup [] ∧ t = [(0, .row 1 (rowsI (sortI l)))]) :=
  Contract.sort_ints (enters_of Try.func68 (by kernel_rfl) rfl) sortI sortI_len (fun blk off cap zs w => Any.slices_Sort_int lays189 blk off cap zs w) (fun p cap w => Any.slices_Sort_int_none lays189 p cap w) l hl cap
theorem dd_take {l : List Int} {i : Nat} {x y : Int} (hi : 0 < i) (hx : l[i - 1]? = .some x) (hy : l[i]? = .some y) : dd (l.take (i + 1)) = dd (l.take i) ++ (if x = y then [] else [y]) := by
  obtain ⟨j, rfl⟩ : ∃ j, i = j + 1 := ⟨i - 1, by omega⟩
  simp only [Nat.add_sub_cancel] at hx
  have h1 : l.take (j + 1 + 1) = l.take j ++ [x, y] := by
    rw [List.take_add_one, List.take_add_one, hx, hy]
    simp
  have h2 : l.take (j + 1) = l.take j ++ [x] := by
    rw [List.take_add_one, hx]
    simp
  rw [h1, h2, dd_snoc]
theorem row_at {l : List Int} {k i : Nat} {x : Int} (h : l[k + i]? = .some x) : (rowsI l)[k + (i : Int).toNat]? = some (rowI x) := by simp [rowsI, h]
theorem compact (l : List Int) (hl : l.length ≤ 1000000) (cap : Nat) (hc : l.length ≤ cap) : Contract Try.prog G0 69 [.slc (.g 0) 1 0 l.length cap] [(0, .row 1 (rowsI l))]
    (fun r t => ∃ cur : List Int, cur.length = l.length ∧ cur.take (dd l).length = dd l ∧ r = .slc (.g 0) 1 0 (dd l).length cap ∧ t = [(0, .row 1 (rowsI cur))]) := by
  have hlen := rowsI_len l
  refine con69 1 rfl rfl ?_
  conv => whnf
  refine bcase_intro (fun h => ?_) (fun h => ?_) <;> conv => whnf
  · have h := of_decide_eq_true h
    have hd : dd l = l := by
      match l, h with
      | [], _ => rfl
      | [x], _ => rfl
      | x :: y :: r, h => simp at h; omega
    exact ⟨l, rfl, by rw [hd, List.take_length], by rw [hd], rfl⟩
  have h := of_decide_eq_false h
  refine V.rounds (fun m env s => ∃ i : Nat, 0 < i ∧ i ≤ l.length ∧ m = l.length - i ∧ dd (l.take i) = l.take i ∧
    env = [(0, .slc (.g 0) 1 0 l.length cap), (2, .d .nil), (3, .d (.int .i64 i)), (4, .undef), (5, .undef), (8, .undef), (13, .undef), (25, .undef), (32, .undef), (44, .undef)] ∧ s = [(0, .row 1 (rowsI l))])
    ⟨_, _, GV.drop [0, 2, 3], _, 1, by omega, by omega, rfl, ?_, rfl, rfl⟩ ?_
  · cases l with
    | nil => rfl
    | cons x r => rfl
  rintro m env s ⟨i, hi0, hi, rfl, hdd, rfl, rfl⟩
  refine V.of (kt := kt69) tabOK mixed (by kernel_rfl) ?_
  conv => whnf
  refine bcase_intro (fun h => ?_) (fun h => ?_) <;> conv => whnf
  · have h := lt_of h
    refine ⟨⟨by omega, by omega⟩, ?_⟩
    conv => whnf
    obtain ⟨y, hy⟩ := list_has l i h
    obtain ⟨x, hx⟩ := list_has l (i - 1) (by omega)
    refine ⟨rowI y, row_at (by rw [Nat.zero_add]; exact hy), rfl, ?_⟩
    conv => whnf
    rw [pred_i hi0 (by omega)]
    refine ⟨⟨by omega, by omega⟩, ?_⟩
    conv => whnf
    refine ⟨rowI x, row_at (by rw [Nat.zero_add]; exact hx), rfl, ?_⟩
    conv => whnf
    have hst := dd_take hi0 hx hy
    refine bcase_intro (fun h2 => ?_) (fun h2 => ?_) <;> conv => whnf
    · have h2 : y = x := by simpa using h2
      subst h2
      rw [if_pos rfl, List.append_nil] at hst
      refine ⟨⟨by omega, by omega, by omega⟩, ?_⟩
      conv => whnf
      refine V.rounds (fun m env s => ∃ (j q : Nat) (cur : List Int), 0 < j ∧ i + j ≤ l.length ∧ m = l.length - (i + j) ∧ q ≤ i + j - 1 ∧ cur.length = l.length ∧ cur.take q = dd (l.take (i + j)) ∧ (dd (l.take (i + j))).length = q ∧ cur.drop (i + j - 1) = l.drop (i + j - 1) ∧
        env = [(0, .slc (.g 0) 1 0 l.length cap), (2, .d .nil), (3, .d (.int .i64 q)), (4, .slc (.g 0) 1 i (l.length - i) (cap - i)), (5, .d (.int .i64 j)), (8, .undef), (13, .undef), (25, .undef), (32, .undef), (44, .undef)] ∧ s = [(0, .row 1 (rowsI cur))])
        ⟨_, _, GV.drop [0, 2, 3, 4, 5], _, 1, i, l, by omega, by omega, rfl, by omega, rfl, ?_, ?_, rfl, ?_, rfl⟩ ?_
      · rw [hst, hdd]
      · rw [hst, hdd, List.length_take]; omega
      · simp only [Int.toNat_natCast, Nat.zero_add]
        rfl
      rintro m env s ⟨j, q, cur, hj0, hj, rfl, hq, hcl, hcur, hql, hrest, rfl, rfl⟩
      refine V.of (kt := kt69) tabOK mixed (by kernel_rfl) ?_
      conv => whnf
      refine bcase_intro (fun h => ?_) (fun h => ?_) <;> conv => whnf
      · have h := lt_of h
        obtain ⟨u, hu⟩ := list_has l (i + j) (by omega)
        obtain ⟨p, hp⟩ := list_has l (i + j - 1) (by omega)
        have hcu : cur[i + j]? = .some u := by
          have := congrArg (fun q => q[1]?) hrest
          simp only [List.getElem?_drop] at this
          rwa [show i + j - 1 + 1 = i + j by omega, hu] at this
        have hcp : cur[i + j - 1]? = .some p := by
          have := congrArg (fun q => q[0]?) hrest
          simp only [List.getElem?_drop] at this
          rwa [show i + j - 1 + 0 = i + j - 1 by omega, hp] at this
        refine ⟨⟨by omega, by omega⟩, ?_⟩
        conv => whnf
        refine ⟨rowI u, row_at hcu, rfl, ?_⟩
        conv => whnf
        rw [pred_i hj0 (by omega)]
        refine ⟨⟨by omega, by omega⟩, ?_⟩
        conv => whnf
        refine ⟨rowI p, row_at (by rw [show i + (j - 1) = i + j - 1 by omega]; exact hcp), rfl, ?_⟩
        conv => whnf
        have hst2 := dd_take (show 0 < i + j by omega) hp hu
        refine bcase_intro (fun h3 => ?_) (fun h3 => ?_) <;> conv => whnf
        · have h3 : u ≠ p := by simpa using h3
          rw [if_neg (fun e => h3 e.symm)] at hst2
          refine ⟨⟨by omega, by omega⟩, ?_⟩
          conv => whnf
          refine ⟨rowI u, row_at hcu, rfl, ?_⟩
          conv => whnf
          refine ⟨⟨by omega, by omega⟩, ?_⟩
          conv => whnf
          obtain ⟨v, hv⟩ := list_has cur q (by omega)
          refine ⟨rowI v, row_at (by rw [Nat.zero_add]; exact hv), ?_⟩
          conv => whnf
          rw [succ_i (n := l.length) (i := q) (by omega) (by omega), succ_i (n := l.length) (i := j) (by omega) (by omega)]
          refine ⟨_, _, GV.drop [0, 2, 3, 4, 5], _, by omega, j + 1, q + 1, cur.set q u, by omega, by omega, rfl, by omega, by simp [hcl], ?_, ?_, ?_, rfl, ?_⟩
          · rw [← Nat.add_assoc, hst2, ← hcur, List.take_add_one, List.take_set_of_le (Nat.le_refl _)]
            simp [show q < cur.length by omega]
          · rw [← Nat.add_assoc, hst2, List.length_append, hql]; rfl
          · have := congrArg List.tail hrest
            rw [List.tail_drop, List.tail_drop] at this
            rw [List.drop_set_of_lt (by omega), show i + (j + 1) - 1 = i + j - 1 + 1 by omega]
            exact this
          · refine congrArg (fun q => [(0, AB.row 1 q)]) ?_
            simp [rowsI, List.map_set, setN, rowI]
        · have h3 : u = p := by simpa using h3
          rw [if_pos h3.symm, List.append_nil] at hst2
          rw [succ_i (n := l.length) (by omega) (by omega)]
          refine ⟨_, _, GV.drop [0, 2, 3, 4, 5], _, by omega, j + 1, q, cur, by omega, by omega, rfl, by omega, hcl, ?_, ?_, ?_, rfl, rfl⟩
          · rw [← Nat.add_assoc, hst2, hcur]
          · rw [← Nat.add_assoc, hst2, hql]
          · have := congrArg List.tail hrest
            rwa [List.tail_drop, List.tail_drop, show i + j - 1 + 1 = i + (j + 1) - 1 by omega] at this
      · have h := ge_of h
        have hij : i + j = l.length := by omega
        rw [hij, List.take_length] at hcur hql
        refine ⟨⟨by omega, by omega, by omega⟩, ?_⟩
        conv => whnf
        refine ⟨by simp [rowsI]; omega, ?_⟩
        conv => whnf
        refine ⟨⟨by omega, by omega, by omega⟩, ?_⟩
        conv => whnf
        refine ⟨cur.take q ++ List.replicate (l.length - q) 0, by simp; omega, ?_, ?_, ?_⟩
        · rw [hql, List.take_append_of_le_length (by simp; omega), List.take_take, Nat.min_self]
          exact hcur
        · rw [hql]; rfl
        · refine congrArg (fun q => [(0, AB.row 1 q)]) ?_
          have hz : ti3.zero = rowI 0 := rfl
          rw [hz, Nat.zero_add, Int.toNat_natCast, Int.toNat_natCast]
          unfold splice
          rw [List.length_replicate, show q + (l.length - q) = l.length by omega, List.drop_eq_nil_of_le (by simp [rowsI]; omega)]
          simp [rowsI, List.map_take]
    · have h2 : y ≠ x := by simpa using h2
      rw [if_neg (fun e => h2 e.symm), hdd] at hst
      rw [succ_i h (by omega)]
      refine ⟨_, _, GV.drop [0, 2, 3], _, by omega, i + 1, by omega, h, rfl, ?_, rfl, rfl⟩
      rw [hst, List.take_add_one, hy]
      rfl
  · have h := ge_of h
    have hil : i = l.length := by omega
    subst hil
    rw [List.take_length] at hdd
    refine ⟨l, rfl, by rw [hdd, List.take_length], ?_, ?_⟩
    · rw [hdd]
    · rfl
theorem sort_nil : Contract Try.prog G0 68 [.d (.list 1 [])] [] (fun r t => r = .tup [] ∧ t = []) :=
  Contract.sort_none (enters_of Try.func68 (by kernel_rfl) rfl) fun p cap w => Any.slices_Sort_int_none lays189 p cap w
theorem compact_nil : Contract Try.prog G0 69 [.d (.list 1 [])] [] (fun r t => r = .d (.list 1 []) ∧ t = []) := by
  refine con69 0 rfl rfl ?_
  conv => whnf
  exact ⟨rfl, rfl⟩
theorem set19 (l : List Int) (hl : l.length ≤ 100000) : Contract Try.prog G0 19 [.d (.list 1 (rowsI l))] [] (fun r t => r = .d (.list 1 (rowsI (setI l))) ∧ t = []) := by
  cases l with
  | nil =>
    refine conG19 0 rfl rfl ?_
    conv => whnf
    refine .inr (.inl ⟨_, _, ⟨WkL.refl _, clone_nil⟩, fun res s1 h => ?_⟩)
    obtain ⟨h, rfl⟩ := h
    rcases h with rfl | rfl
    · conv => whnf
      refine .inl (.inl ⟨[.d (.list 1 [])], _, ⟨.n 1 .nil, rfl, sort_nil⟩, ?_⟩)
      conv => whnf
      refine .inl (.inr ⟨[.d (.list 1 [])], _, ⟨.n 1 .nil, rfl, compact_nil⟩, ?_⟩)
      conv => whnf
      refine ⟨_, _, .refl, ?_⟩
      conv => whnf
      rw [show setI [] = [] by simp [setI, sortI, dd]]
      exact ⟨rfl, rfl⟩
    · conv => whnf
      refine .inl (.inl ⟨[.d (.list 1 [])], _, ⟨.e 1 .nil, rfl, sort_nil⟩, ?_⟩)
      conv => whnf
      refine .inl (.inr ⟨[.d (.list 1 [])], _, ⟨.e 1 .nil, rfl, compact_nil⟩, ?_⟩)
      conv => whnf
      refine ⟨_, _, .refl, ?_⟩
      conv => whnf
      rw [show setI [] = [] by simp [setI, sortI, dd]]
      exact ⟨rfl, rfl⟩
  | cons x r =>
    have hl : r.length + 1 ≤ 100000 := by simpa using hl
    have hrl := rowsI_len r
    refine conG19 0 rfl rfl ?_
    conv => whnf
    refine .inr (.inl ⟨_, _, ⟨WkL.refl _, clone_cons (rowI x) (rowsI r) (by simp [rowsI]; omega)⟩, fun res s1 h => ?_⟩)
    obtain ⟨c, hc, rfl, rfl⟩ := h
    rw [hrl] at hc ⊢
    conv => whnf
    have hs := sort68 (x :: r) (by simp; omega) c
    refine .inr (.inl ⟨_, _, ⟨WkL.refl _, hs⟩, fun res s1 h => ?_⟩)
    obtain ⟨rfl, rfl⟩ := h
    conv => whnf
    have hsl := sortI_len (x :: r)
    have hcp := compact (sortI (x :: r)) (by rw [hsl]; simp; omega) c (by rw [hsl]; simpa using hc)
    rw [hsl] at hcp
    refine .inr (.inl ⟨_, _, ⟨WkL.refl _, hcp⟩, fun res s1 h => ?_⟩)
    obtain ⟨cur, h1, h2, rfl, rfl⟩ := h
    conv => whnf
    have hdl := dd_len (sortI (x :: r))
    have hsl2 : (sortI (x :: r)).length = r.length + 1 := hsl
    have hcl : (rowsI cur).length = r.length + 1 := by rw [rowsI_len, h1]; rfl
    refine ⟨_, _, GV.freeze 0 rfl (by simp) (by repeat' first | exact trivial | apply And.intro | decide | (simp; done) | omega) (by repeat' first | exact trivial | apply And.intro), ?_⟩
    conv => whnf
    refine ⟨?_, rfl⟩
    refine congrArg (fun q => AV.d (.list 1 q)) ?_
    rw [List.drop_zero]
    show List.take (dd (sortI (x :: r))).length (rowsI cur) = rowsI (dd (sortI (x :: r)))
    conv => rhs; rw [← h2]
    simp [rowsI, List.map_take]
end Go.Proofs.Ytkenimmellonjaa
/- Seat r2: copies, the least; a set of what is handed on. -/
namespace Go.Proofs.Ytkenimmellonjaa
open Go.Pv Go.RowKit Go.Shelf

theorem ints43 (l : List Int) (hl : l.length ≤ 1000000) : Contract Try.prog G0 43 [.d (.list 1 (rowsI l))] [] (fun r t => ∃ c, l.length ≤ c ∧ r = .slc (.g 0) 1 0 l.length c ∧ t = [(0, .row 1 (rowsI l))]) := by
  have hlen := rowsI_len l
  refine conG43 0 rfl rfl ?_
  conv => whnf
  refine ⟨0, l.length, ⟨rfl, by rw [hlen], Nat.zero_le _, by show l.length * 8 ≤ _; omega, by omega⟩, ?_⟩
  conv => whnf
  refine V.rounds (fun m env s => ∃ i c : Nat, i ≤ l.length ∧ m = l.length - i ∧ i ≤ c ∧
    env = [(0, .d (.list 1 (rowsI l))), (2, .d .nil), (3, .slc (.g 0) 1 0 i c), (4, .d (.int .i64 (i : Int))), (11, .undef)] ∧ s = [(0, .row 1 (rowsI (l.take i)))])
    ⟨_, _, GV.drop [0, 2, 3, 4], _, 0, l.length, Nat.zero_le _, rfl, Nat.zero_le _, rfl, rfl⟩ ?_
  rintro m env s ⟨i, c, hi, rfl, hic, rfl, rfl⟩
  refine V.of (kt := kt43) tabOK mixed (by kernel_rfl) ?_
  conv => whnf
  refine bcase_intro (fun h => ?_) (fun h => ?_) <;> conv => whnf
  · have h := lt_of h
    rw [hlen] at h
    obtain ⟨x, hx, hdrop⟩ := at_i h
    refine ⟨rowI x, ⟨by omega, row_i hx⟩, ?_⟩
    conv => whnf
    refine ⟨by simp [rowsI]; omega, ⟨?_, ?_⟩, ?_⟩
    · show (2 * (i + 1) + 1024) * 8 ≤ 281474976710656; omega
    · show i + 1 ≤ _; omega
    conv => whnf
    intro c2 hc2
    conv => whnf
    refine ⟨_, _, GV.trans (GV.gather [1] rfl rfl rfl) (GV.drop [0, 2, 3, 4]), _, by omega, i + 1, c2, h, rfl, hc2, ?_, ?_⟩
    · rw [← succ_i h (by omega)]; rfl
    · refine congrArg (fun q => [(0, AB.row 1 q)]) ?_
      rw [List.take_of_length_le (by simp [rowsI]; omega), List.take_add_one, hx]
      simp [rowsI, rowI]
  · have h := ge_of h
    rw [hlen] at h
    have : i = l.length := by omega
    subst this
    refine ⟨_, _, .refl, ?_⟩
    conv => whnf
    refine ⟨c, hic, rfl, ?_⟩
    rw [List.take_of_length_le (Nat.le_refl _)]
/-- Set, told of an object that is wanted no more. -/
theorem set19_own (l : List Int) (hl : l.length ≤ 100000) (cap : Nat) : Contract Try.prog G0 19 [.slc (.g 0) 1 0 l.length cap] [(0, .row 1 (rowsI l))] (fun r t => r = .d (.list 1 (rowsI (setI l))) ∧ t = [(0, .dead)]) := by
  have h0 := set19 l hl
  have e : fzL 0 (AB.row 1 (rowsI l)) [.slc (.g 0) 1 0 l.length cap] = [.d (.list 1 ((List.drop 0 (rowsI l)).take l.length))] := rfl
  refine Contract.frz (by simp) ⟨⟨by decide, by rw [rowsI_len]; omega⟩, trivial⟩ rfl ?_
  rw [e, List.drop_zero, List.take_of_length_le (by rw [rowsI_len]; exact Nat.le_refl _)]
  exact h0
def minI (x : Int) : List Int → Int
  | [] => x
  | y :: r => minI (if y < x then y else x) r
theorem min77 (x0 : Int) (r : List Int) (hl : r.length ≤ 1000000) : Contract Try.prog G0 77 [.d (.list 1 (rowsI (x0 :: r)))] [] (fun q t => q = .d (.int .i64 (minI x0 r)) ∧ t = []) := by
  have hlen := rowsI_len (x0 :: r)
  refine con77 0 rfl rfl ?_
  conv => whnf
  refine ⟨rowI x0, ⟨by omega, rfl⟩, ?_⟩
  conv => whnf
  generalize hl2 : x0 :: r = l at hlen
  have hll : l.length = r.length + 1 := by rw [← hl2]; rfl
  refine V.rounds (fun m env s => ∃ (i : Nat) (b : Int), 0 < i ∧ i ≤ l.length ∧ m = l.length - i ∧ minI b (l.drop i) = minI x0 r ∧
    env = [(0, .d (.list 1 (rowsI l))), (2, .d (.int .i64 0)), (3, .d (.int .i64 b)), (4, .d (.int .i64 (i : Int))), (7, .undef), (15, .undef)] ∧ s = [])
    ⟨_, _, GV.drop [0, 2, 3, 4], _, 1, x0, by omega, by omega, rfl, by rw [← hl2]; rfl, rfl, rfl⟩ ?_
  rintro m env s ⟨i, b, hi0, hi, rfl, hb, rfl, rfl⟩
  refine V.of (kt := kt77) tabOK mixed (by kernel_rfl) ?_
  conv => whnf
  refine bcase_intro (fun h => ?_) (fun h => ?_) <;> conv => whnf
  · have h := lt_of h
    rw [hlen] at h
    obtain ⟨x, hx, hdrop⟩ := at_i h
    refine ⟨rowI x, ⟨by omega, row_i hx⟩, ?_⟩
    conv => whnf
    rw [hdrop, minI] at hb
    rw [succ_i h (by omega)]
    exact ⟨_, _, GV.drop [0, 2, 3, 4], _, by omega, i + 1, _, by omega, h, rfl, hb, rfl, rfl⟩
  · have h := ge_of h
    rw [hlen] at h
    rw [List.drop_eq_nil_of_le h, minI] at hb
    exact ⟨rd_int hb, rfl⟩
/-- The least, and whether there is one. -/
def leastI : List Int → Int × Bool
  | [] => (0, false)
  | x :: r => (minI x r, true)
theorem least42 (l : List Int) (hl : l.length ≤ 1000000) : Contract Try.prog G0 42 [.d (.list 1 (rowsI l))] [] (fun q t => q = .tup [.d (.int .i64 (leastI l).1), .d (.bool (leastI l).2)] ∧ t = []) := by
  cases l with
  | nil =>
    refine con42 0 rfl rfl ?_
    conv => whnf
    exact ⟨rfl, rfl⟩
  | cons x r =>
    have hl : r.length + 1 ≤ 1000000 := by simpa using hl
    refine con42 0 rfl rfl ?_
    conv => whnf
    refine .inl (.inl ⟨[.d (.list 1 (rowsI (x :: r)))], _, ⟨.refl _, rfl, min77 x r (by omega)⟩, ?_⟩)
    conv => whnf
    exact ⟨rfl, rfl⟩
theorem minI_le : ∀ (r : List Int) (x y : Int), (y = x ∨ y ∈ r) → minI x r ≤ y
  | [], x, y, h => by
    rcases h with rfl | h
    · exact Int.le_refl _
    · cases h
  | z :: r, x, y, h => by
    simp only [minI]
    rcases h with rfl | h
    · have := minI_le r (if z < y then z else y) _ (.inl rfl)
      split at this <;> rename_i hz <;> simp only [hz, if_true, if_false] <;> omega
    · rcases List.mem_cons.1 h with rfl | h
      · have := minI_le r (if y < x then y else x) _ (.inl rfl)
        split at this <;> rename_i hz <;> simp only [hz, if_true, if_false] <;> omega
      · exact minI_le r _ y (.inr h)
theorem minI_mem : ∀ (r : List Int) (x : Int), minI x r = x ∨ minI x r ∈ r
  | [], x => .inl rfl
  | z :: r, x => by
    simp only [minI]
    rcases minI_mem r (if z < x then z else x) with h | h
    · rw [h]
      split
      · exact .inr (by simp)
      · exact .inl rfl
    · exact .inr (by simp [h])
end Go.Proofs.Ytkenimmellonjaa
/- OrderSets: plain laws. -/
namespace Go.Proofs.Ytkenimmellonjaa
open Go.Pv Go.RowKit Go.Shelf
theorem inc_eq {a b : List Int} (ha : IncI a) (hb : IncI b) (h : ∀ x, x ∈ a ↔ x ∈ b) : a = b := by
  have hp : a.Perm b := (List.perm_ext_iff_of_nodup (inc_nodup ha) (inc_nodup hb)).2 h
  exact sorted_eq hp (ha.imp fun h => by omega) (hb.imp fun h => by omega)
theorem setI_more (l : List Int) (b : Int) : (setI (l ++ [b])).length = (setI l).length + (if (setI l).any (fun y => b == y) then 0 else 1) := by
  cases h : (setI l).any (fun y => b == y) with
  | true =>
    rw [List.any_eq_true] at h
    obtain ⟨y, hy, he⟩ := h
    have he : b = y := by simpa using he
    subst he
    have : setI (l ++ [b]) = setI l := inc_eq (setI_inc _) (setI_inc _) fun x => by
      rw [setI_mem, setI_mem, List.mem_append, List.mem_singleton]
      constructor
      · rintro (h | rfl)
        · exact h
        · exact (setI_mem _ _).1 hy
      · exact .inl
    rw [this]
    simp
  | false =>
    have hb : b ∉ setI l := fun hm => by
      rw [List.any_eq_false] at h
      exact h b hm (by simp)
    have hp : (setI (l ++ [b])).Perm (b :: setI l) := by
      refine (List.perm_ext_iff_of_nodup (inc_nodup (setI_inc _)) (List.nodup_cons.2 ⟨hb, inc_nodup (setI_inc _)⟩)).2 fun x => ?_
      rw [setI_mem, List.mem_append, List.mem_singleton, List.mem_cons, setI_mem, or_comm]
    rw [hp.length_eq]
    simp
theorem least_head {l : List Int} {x : Int} {r s : List Int} (hl : l = x :: r) (hs : IncI s) (hm : ∀ y, y ∈ s ↔ y ∈ l) {a : Int} (ha : s[0]? = .some a) : minI x r = a := by
  subst hl
  have h1 : minI x r ∈ x :: r := by
    rcases minI_mem r x with h | h
    · rw [h]; simp
    · simp [h]
  have h2 : a ∈ x :: r := (hm a).1 (List.mem_of_getElem? ha)
  have h3 := minI_le r x a (by simpa using h2)
  have h4 : a ≤ minI x r := by
    have h5 := (hm _).2 h1
    cases s with
    | nil => cases h5
    | cons y q =>
      simp at ha
      subst ha
      rcases List.mem_cons.1 h5 with h | h
      · omega
      · have := (List.pairwise_cons.1 hs).1 _ h; omega
  omega
end Go.Proofs.Ytkenimmellonjaa
/- Seat r2: the reference's sets. -/
namespace Go.Proofs.Ytkenimmellonjaa
open Go.Pv Go.RowKit Go.Shelf

theorem sameInts34 (a b : List Int) (ha : a.length ≤ 4611686018427387904) : Contract Try.prog G0 34 [.d (.list 1 (rowsI a)), .d (.list 1 (rowsI b))] [] (fun r t => r = .d (.bool (a == b)) ∧ t = []) := by
  have hlen := rowsI_len a
  have hlen2 := rowsI_len b
  refine run34 0 [] rfl rfl ?_
  conv => whnf
  refine bcase_intro (fun h => ?_) (fun h => ?_) <;> conv => whnf
  · rw [hlen, hlen2] at h
    refine ⟨rd_bool ?_, rfl⟩
    symm
    rw [beq_eq_false_iff_ne]
    rintro rfl
    simp at h
  have hab : a.length = b.length := by
    rw [hlen, hlen2] at h
    simp at h
    omega
  refine StopG.rounds wk34 [] [0, 1, 5] (fun m env s => ∃ i : Nat, i ≤ a.length ∧ m = a.length - i ∧ a.take i = b.take i ∧
    env = [(0, .d (.list 1 (rowsI a))), (1, .d (.list 1 (rowsI b))), (5, .d (.int .i64 (i : Int)))] ∧ s = []) rfl ?_ ?_
  · conv => whnf
    exact ⟨_, 0, Nat.zero_le _, rfl, rfl, rfl, rfl⟩
  rintro m env s ⟨i, hi, rfl, heq, rfl, rfl⟩
  conv => whnf
  refine bcase_intro (fun h => ?_) (fun h => ?_) <;> conv => whnf
  · have h := lt_of h
    rw [hlen] at h
    obtain ⟨x, hx, hdrop⟩ := at_i h
    obtain ⟨y, hy, hdrop2⟩ := at_i (l := b) (i := i) (by omega)
    refine ⟨rowI x, ⟨by omega, row_i hx⟩, ?_⟩
    conv => whnf
    refine ⟨rowI y, ⟨by omega, row_i hy⟩, ?_⟩
    conv => whnf
    refine bcase_intro (fun h2 => ?_) (fun h2 => ?_) <;> conv => whnf
    · refine ⟨rd_bool ?_, rfl⟩
      symm
      rw [beq_eq_false_iff_ne]
      intro e
      subst e
      rw [hx] at hy
      cases hy
      simp at h2
    · rw [succ_i h ha]
      refine ⟨_, by omega, i + 1, h, rfl, ?_, rfl, rfl⟩
      have h2 : x = y := by simpa using h2
      rw [List.take_add_one, List.take_add_one, heq, hx, hy, h2]
  · have h := ge_of h
    rw [hlen] at h
    refine ⟨rd_bool ?_, rfl⟩
    rw [List.take_of_length_le h, List.take_of_length_le (by omega)] at heq
    symm
    simp [heq]

def ltN (l : List Int) (n : Int) : Nat := (l.takeWhile fun x => decide (x < n)).length
/-- Put in where it belongs. -/
def putI (l : List Int) (n : Int) : List Int := if l[ltN l n]? = some n then l else l.take (ltN l n) ++ n :: l.drop (ltN l n)
theorem ltN_le (l : List Int) (n : Int) : ltN l n ≤ l.length := (List.takeWhile_sublist _).length_le
theorem ltN_cons (x : Int) (l : List Int) (n : Int) : ltN (x :: l) n = if x < n then ltN l n + 1 else 0 := by
  unfold ltN
  rw [List.takeWhile_cons]
  split <;> simp_all
theorem put39 (l : List Int) (n : Int) (hl : l.length ≤ 100000) : Contract Try.prog G0 39 [.d (.list 1 (rowsI l)), .d (.int .i64 n)] [] (fun r t => r = .d (.list 1 (rowsI (putI l n))) ∧ t = []) := by
  have hlen := rowsI_len l
  refine rung39 0 [] rfl rfl ?_
  conv => whnf
  refine StopG.rounds wk39 [] [0, 1, 5] (fun m env s => ∃ i : Nat, i ≤ l.length ∧ m = l.length - i ∧ i + ltN (l.drop i) n = ltN l n ∧
    env = [(0, .d (.list 1 (rowsI l))), (1, .d (.int .i64 n)), (5, .d (.int .i64 (i : Int)))] ∧ s = []) rfl ?_ ?_
  · conv => whnf
    exact ⟨_, 0, Nat.zero_le _, rfl, by simp, rfl, rfl⟩
  rintro m env s ⟨i, hi, rfl, heq, rfl, rfl⟩
  conv => whnf
  obtain ⟨x, hx⟩ : ∃ y : Int, y = (l[i]?).getD 0 := ⟨_, rfl⟩
  have hx2 : i < l.length → l[i]? = .some x := fun h0 => by rw [hx, List.getElem?_eq_getElem h0]; rfl
  refine ⟨rowI x, fun hg => ?_, ?_⟩
  · have h0 := lt_of (show decide ((i : Int) < ((rowsI l).length : Int)) = true from hg)
    rw [hlen] at h0
    exact ⟨by omega, row_i (hx2 h0)⟩
  conv => whnf
  refine bcase_intro (fun h => ?_) (fun h => ?_) <;> conv => whnf
  · rw [bif_and, Bool.and_eq_true] at h
    obtain ⟨h, h2⟩ := h
    have h := lt_of h
    rw [hlen] at h
    have h2 := of_decide_eq_true h2
    obtain ⟨y, hy, hdrop⟩ := at_i h
    rw [hx2 h] at hy
    cases hy
    rw [hdrop, ltN_cons, if_pos h2] at heq
    rw [succ_i h (by omega)]
    exact ⟨_, by omega, i + 1, h, rfl, by omega, rfl, rfl⟩
  · have hk : i = ltN l n := by
      rcases Nat.lt_or_ge i l.length with h1 | h1
      · obtain ⟨y, hy, hdrop⟩ := at_i h1
        rw [hx2 h1] at hy
        cases hy
        rw [hdrop, ltN_cons] at heq
        have h2 : ¬ x < n := by
          intro h2
          rw [hlen, decide_eq_true (show (i : Int) < (l.length : Int) by omega), decide_eq_true h2] at h
          cases h
        rw [if_neg h2] at heq
        omega
      · rw [List.drop_eq_nil_of_le h1] at heq
        simpa [ltN] using heq
    clear heq h
    refine ⟨rowI x, fun hg => ?_, ?_⟩
    · have h0 := lt_of (show decide ((i : Int) < ((rowsI l).length : Int)) = true from hg)
      rw [hlen] at h0
      exact ⟨by omega, row_i (hx2 h0)⟩
    conv => whnf
    have hb : (bif decide ((i : Int) < ((rowsI l).length : Int)) then x == n else false) = decide (l[ltN l n]? = some n) := by
      rw [← hk, hlen]
      rcases Nat.lt_or_ge i l.length with h1 | h1
      · rw [decide_eq_true (show (i : Int) < (l.length : Int) by omega), hx2 h1]
        simp [Bool.beq_eq_decide_eq]
      · rw [decide_eq_false (show ¬ (i : Int) < (l.length : Int) by omega), List.getElem?_eq_none h1]
        rfl
    rw [hb]
    refine bcase_intro (fun h => ?_) (fun h => ?_) <;> conv => whnf
    · have h := of_decide_eq_true h
      refine .obj rfl ?_
      conv => whnf
      refine ⟨_, _, ⟨WkL.refl _, ints43 l (by omega)⟩, fun res s1 h => ?_⟩
      obtain ⟨c, hc, rfl, rfl⟩ := h
      conv => whnf
      refine ⟨_, _, GV.freeze 0 rfl (by simp) (by repeat' first | exact trivial | apply And.intro | decide | (simp; done) | omega) (by repeat' first | exact trivial | apply And.intro), ?_⟩
      conv => whnf
      refine ⟨?_, rfl⟩
      rw [List.drop_zero, List.take_of_length_le (by omega), putI, if_pos h]
    · have h := of_decide_eq_false h
      refine ⟨⟨by omega, by omega, by omega⟩, ?_⟩
      conv => whnf
      have e1 : List.drop (Int.toNat 0) (List.take ((i : Int)).toNat (rowsI l)) = rowsI (l.take i) := by simp [rowsI, List.map_take]
      have e2 : (l.take i).length = i := by rw [List.length_take]; omega
      rw [e1]
      refine .obj rfl ?_
      conv => whnf
      have hin := ints43 (l.take i) (by omega)
      rw [e2] at hin
      refine ⟨_, _, ⟨WkL.refl _, hin⟩, fun res s1 h => ?_⟩
      obtain ⟨c, hc, rfl, rfl⟩ := h
      conv => whnf
      have e3 := rowsI_len (l.take i)
      rw [e2] at e3
      refine ⟨by omega, ⟨?_, ?_⟩, ?_⟩
      · show (2 * (i + 1) + 1024) * 8 ≤ 281474976710656; omega
      · show i + 1 ≤ _; omega
      conv => whnf
      intro c2 hc2
      conv => whnf
      refine ⟨⟨by omega, by omega, by omega⟩, ?_⟩
      conv => whnf
      have e4 : (List.drop ((i : Int)).toNat (List.take (((rowsI l).length : Int)).toNat (rowsI l))) = rowsI (l.drop i) := by rw [Int.toNat_natCast, Int.toNat_natCast, List.take_of_length_le (Nat.le_refl _)]; simp [rowsI]
      have e5 : (rowsI (l.drop i)).length = l.length - i := by rw [rowsI_len, List.length_drop]
      rw [e4]
      refine ⟨by simp [e3], ⟨?_, ?_⟩, ?_⟩
      · show (2 * (i + 1 + (rowsI (l.drop i)).length) + 1024) * 8 ≤ 281474976710656; rw [e5]; omega
      · show i + 1 + (rowsI (l.drop i)).length ≤ _; rw [e5]; omega
      conv => whnf
      intro c3 hc3
      conv => whnf
      refine ⟨_, _, GV.freeze 2 rfl (by simp) (by repeat' first | exact trivial | apply And.intro | decide | (simp [e3]; done) | omega) (by repeat' first | exact trivial | apply And.intro), ?_⟩
      conv => whnf
      refine ⟨?_, rfl⟩
      refine congrArg (fun q => AV.d (.list 1 q)) ?_
      rw [putI, if_neg h, ← hk, List.drop_zero]
      have e6 : List.take i (rowsI (l.take i)) = rowsI (l.take i) := List.take_of_length_le (by omega)
      rw [e6, List.take_of_length_le (by simp [e3]), List.take_of_length_le (by simp [e3])]
      simp [rowsI, rowI]
end Go.Proofs.Ytkenimmellonjaa
/- The law's first input. -/
namespace Go.Proofs.Ytkenimmellonjaa
open Go.Pv Go.RowKit Go.Shelf
theorem first18 : Contract Try.prog G0 18 [] [] (fun r t => r = .d (.bool true) ∧ t = []) := by
  refine con18 0 rfl rfl ?_
  conv => whnf
  refine .inl (.inl ⟨[.d (.list 1 (rowsI [1, 4, 6])), .d (.int .i64 6)], _, ⟨.refl _, rfl, next [1, 4, 6] (by decide) 6⟩, ?_⟩)
  conv => whnf
  exact ⟨rfl, rfl⟩
end Go.Proofs.Ytkenimmellonjaa
