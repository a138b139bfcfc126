/- Seat r2: who wants what: the plain law. -/
import Derived.Test.YtkenimmellonjaaBB
import Derived.Test.YtkenimmellonjaaMA
namespace Go.Proofs.Ytkenimmellonjaa
open Go.Pv Go.RowKit Go.Shelf
theorem of_any (l : List B) (car : Int) : (ofB l car).2 = l.any fun b => b.1 == car := by
  unfold ofB
  split
  · rename_i b h
    have h1 := List.mem_of_find?_eq_some h
    have h2 := List.find?_some h
    exact (List.any_eq_true.2 ⟨b, h1, h2⟩).symm
  · rename_i h
    rw [List.find?_eq_none] at h
    refine (List.any_eq_false.2 fun b hb => ?_).symm
    exact h b hb
theorem any_swap (mem : List Int) (car : Int) : (mem.any fun y => car == y) = mem.any fun y => y == car := by
  congr 1
  funext y
  exact Bool.beq_comm
def onB (mem : List Int) (car : Int) (e : En) : Bool := bif bif !(mem.any fun y => y == car) then true else (e.bids.any fun b => b.1 == car) then true else decide (e.aw ≥ 0)
theorem want_eq (mem : List Int) (car : Int) (l : List En) : wantL mem car l = (l.filter fun e => !onB mem car e).map callE := by
  unfold wantL wishL
  rw [any_swap]
  cases h : (mem.any fun y => y == car) with
  | true =>
    rw [if_pos rfl]
    congr 2
    funext e
    unfold wishE onB
    rw [of_any, h]
    cases h2 : (e.bids.any fun b => b.1 == car) with
    | true => rfl
    | false =>
      show decide (e.aw < 0) = !decide (e.aw ≥ 0)
      by_cases h3 : e.aw < 0 <;> simp [h3] <;> omega
  | false =>
    rw [if_neg (by decide)]
    have : ∀ e, (!onB mem car e) = false := by intro e; unfold onB; rw [h]; rfl
    rw [List.filter_eq_nil_iff.2 (by simp [this]), List.map_nil]
theorem want_skip {mem : List Int} {car : Int} {l : List En} {i : Nat} {x : En} (hx : l[i]? = some x) (h : onB mem car x = true) : wantL mem car (l.take (i + 1)) = wantL mem car (l.take i) := by
  rw [want_eq, want_eq, List.take_add_one, hx]
  simp [h]
theorem want_more {mem : List Int} {car : Int} {l : List En} {i : Nat} {x : En} (hx : l[i]? = some x) (h : onB mem car x = false) : wantL mem car (l.take (i + 1)) = wantL mem car (l.take i) ++ [callE x] := by
  rw [want_eq, want_eq, List.take_add_one, hx]
  simp [h]
theorem want_at {mem : List Int} {car : Int} {l : List En} {i : Nat} {x : En} (hx : l[i]? = some x) (h : onB mem car x = false) : (wantL mem car l)[(wantL mem car (l.take i)).length]? = some (callE x) := by
  have e : wantL mem car l = wantL mem car (l.take (i + 1)) ++ wantL mem car (l.drop (i + 1)) := by
    rw [want_eq, want_eq, want_eq, ← List.map_append, ← List.filter_append, List.take_append_drop]
  rw [e, want_more hx h, List.append_assoc, List.getElem?_append_right (Nat.le_refl _), Nat.sub_self]
  rfl
theorem want_len (mem : List Int) (car : Int) (l : List En) : (wantL mem car l).length ≤ l.length := by
  rw [want_eq, List.length_map]; exact List.length_filter_le _ _
/-- The ring after so many bids. -/
def bidsL (mem : List Int) (car : Int) (ws : List (Int × Int)) (l : List En) : Nat → List En
  | 0 => l
  | k + 1 => match ws[k]? with
    | some c => (bidL mem (car, (k : Int)) c (bidsL mem car ws l k)).1
    | none => bidsL mem car ws l k
structure WantOK (mem : List Int) (l : List En) (car : Int) : Prop where
  step : ∀ (k : Nat) (c : Int × Int), (wantL mem car l)[k]? = some c → (bidL mem (car, (k : Int)) c (bidsL mem car (wantL mem car l) l k)).2 = true ∧ (wantL mem car (bidsL mem car (wantL mem car l) l (k + 1))).length = (wantL mem car l).length - k - 1
  sane : ∀ (k : Nat), k ≤ (wantL mem car l).length → (bidsL mem car (wantL mem car l) l k).length = l.length ∧ ∀ e ∈ bidsL mem car (wantL mem car l) l k, e.bids.length ≤ 16 + k
theorem insB_mem (l : List B) (b : B) : b ∈ insB l b := by
  unfold insB
  split
  · simp
  · simp
theorem insB_len (l : List B) (b : B) : (insB l b).length = l.length + 1 := by
  unfold insB
  split
  · rename_i k _
    simp only [List.length_append, List.length_take, List.length_cons, List.length_drop]
    omega
  · simp
/-- Calls apart. -/
def Apart (l : List En) : Prop := (l.map callE).Nodup
theorem isC_iff (c : Int × Int) (e : En) : isC c e = true ↔ callE e = c := by
  unfold isC callE
  obtain ⟨a, b⟩ := c
  by_cases h : e.fl = a
  · simp [h]
  · simp [h]
theorem idx_first {p : En → Bool} {pre post : List En} {x : En} (hx : p x = true) (hp : ∀ e ∈ pre, p e = false) : idxFrom p (pre ++ x :: post) 0 = (pre.length : Int) := by
  have key : ∀ (q : List En) (i : Int), (∀ e ∈ q, p e = false) → idxFrom p (q ++ x :: post) i = i + q.length := by
    intro q
    induction q with
    | nil => intro i _; simp [idxFrom, hx]
    | cons e r ih =>
      intro i h
      simp only [List.cons_append, idxFrom]
      rw [if_neg (by rw [h e (List.mem_cons_self ..)]; decide), ih (i + 1) fun y hy => h y (List.mem_cons_of_mem _ hy)]
      simp only [List.length_cons]; omega
  simpa using key pre 0 hp
theorem want_app (mem : List Int) (car : Int) (a b : List En) : wantL mem car (a ++ b) = wantL mem car a ++ wantL mem car b := by
  rw [want_eq, want_eq, want_eq, List.filter_append, List.map_append]
theorem want_one {mem : List Int} {car : Int} {x : En} {r : List En} : wantL mem car (x :: r) = (bif onB mem car x then [] else [callE x]) ++ wantL mem car r := by
  rw [want_eq, want_eq]
  cases h : onB mem car x <;> simp [h]
/-- One bid more. -/
theorem bid_step {mem : List Int} {car : Int} {l : List En} {c : Int × Int} {rest : List (Int × Int)} {k : Nat} (hk : k ≤ 1000) (ha : Apart l) (hw : wantL mem car l = c :: rest) :
    (bidL mem (car, (k : Int)) c l).2 = true ∧ wantL mem car (bidL mem (car, (k : Int)) c l).1 = rest ∧ (bidL mem (car, (k : Int)) c l).1.map callE = l.map callE ∧ (bidL mem (car, (k : Int)) c l).1.length = l.length ∧
      ∀ n, (∀ e ∈ l, e.bids.length ≤ n) → ∀ e ∈ (bidL mem (car, (k : Int)) c l).1, e.bids.length ≤ n + 1 := by
  have hc : c ∈ wantL mem car l := by rw [hw]; exact List.mem_cons_self ..
  rw [want_eq] at hc
  obtain ⟨x, hx, hxc⟩ := List.mem_map.1 hc
  obtain ⟨hxl, hon⟩ := List.mem_filter.1 hx
  have hon : onB mem car x = false := by simpa using hon
  obtain ⟨pre, post, rfl⟩ := List.append_of_mem hxl
  unfold Apart at ha
  rw [List.map_append, List.map_cons, List.nodup_append] at ha
  obtain ⟨_, _, hdis⟩ := ha
  have hpre : ∀ e ∈ pre, callE e ≠ c := fun e he => by
    rw [← hxc]
    exact hdis _ (List.mem_map.2 ⟨e, he, rfl⟩) _ (List.mem_cons_self ..)
  have hidx : idxFrom (isC c) (pre ++ x :: post) 0 = (pre.length : Int) := by
    refine idx_first ((isC_iff c x).2 hxc) fun e he => ?_
    cases h : isC c e with
    | false => rfl
    | true => exact absurd ((isC_iff c e).1 h) (hpre e he)
  have hwpre : wantL mem car pre = [] := by
    cases hp : wantL mem car pre with
    | nil => rfl
    | cons d ds =>
      rw [want_app, hp] at hw
      injection hw with h1 _
      have : d ∈ wantL mem car pre := by rw [hp]; exact List.mem_cons_self ..
      rw [want_eq] at this
      obtain ⟨e, he, hed⟩ := List.mem_map.1 this
      exact absurd (hed.trans h1) (hpre e (List.mem_filter.1 he).1)
  have hon2 := hon
  unfold onB at hon2
  obtain ⟨h1, haw⟩ := bor0 hon2
  obtain ⟨hm, hbid⟩ := bor0 h1
  have hm : (mem.any fun y => y == car) = true := by simpa using hm
  have hno : noBid mem (car, (k : Int)) x = false := by
    unfold noBid
    rw [haw, any_swap, hm, show decide ((k : Int) < 0) = false from decide_eq_false (by omega), show decide ((k : Int) > 1048576) = false from decide_eq_false (by omega)]
    rfl
  have hput : putB x.bids (car, (k : Int)) = (insB x.bids (car, (k : Int)), true) := by
    unfold putB
    have : x.bids.find? (fun b => b.1 == (car, (k : Int)).1) = none := by
      rw [List.find?_eq_none]
      intro b hb
      have := (List.any_eq_false.1 hbid) b hb
      exact this
    rw [this]
  have hbl : bidL mem (car, (k : Int)) c (pre ++ x :: post) = (pre ++ bidEn (car, (k : Int)) x :: post, true) := by
    unfold bidL
    rw [hidx]
    show (match (pre ++ x :: post)[pre.length]? with | some x => _ | none => _) = _
    rw [List.getElem?_append_right (Nat.le_refl _), Nat.sub_self]
    show (bif noBid mem (car, (k : Int)) x then _ else _) = _
    rw [hno, hput]
    show ((pre ++ x :: post).set pre.length _, true) = _
    rw [List.set_append_right _ _ (Nat.le_refl _), Nat.sub_self]
    rfl
  rw [hbl]
  have hbe : (bidEn (car, (k : Int)) x).bids = insB x.bids (car, (k : Int)) := by
    show (putB x.bids (car, (k : Int))).1 = _
    rw [hput]
  refine ⟨rfl, ?_, by simp [bidEn, callE], by simp, fun n hn e he => ?_⟩
  · have hon3 : onB mem car (bidEn (car, (k : Int)) x) = true := by
      unfold onB
      rw [hbe, hm, List.any_eq_true.2 ⟨(car, (k : Int)), insB_mem _ _, by simp⟩]
      rfl
    rw [want_app, want_one, hwpre, hon3]
    rw [want_app, want_one, hwpre, hon] at hw
    injection hw
  · rcases List.mem_append.1 he with h | h
    · exact Nat.le_succ_of_le (hn e (List.mem_append_left _ h))
    · rcases List.mem_cons.1 h with rfl | h
      · rw [hbe, insB_len]
        exact Nat.succ_le_succ (hn x hxl)
      · exact Nat.le_succ_of_le (hn e (List.mem_append_right _ (List.mem_cons_of_mem _ h)))
theorem light_apart {cnt fdr hop : Int} {mem : List Int} {l : List En} (h : lightB cnt fdr hop mem l = true) : Apart l := by
  unfold lightB at h
  cases hf : l.any fat with
  | true => rw [hf] at h; cases h
  | false =>
  rw [hf] at h
  have h : (bif bif decide ((mem.length : Int) ≤ 16) then decide ((l.length : Int) ≤ 30) else false then vRing cnt fdr hop mem l == 0 else false) = true := h
  cases h1 : (bif decide ((mem.length : Int) ≤ 16) then decide ((l.length : Int) ≤ 30) else false) with
  | false => rw [h1] at h; cases h
  | true =>
  rw [h1] at h
  have h : (vRing cnt fdr hop mem l == 0) = true := h
  have h : vRing cnt fdr hop mem l = 0 := by simpa using h
  obtain ⟨_, h⟩ := cond0 (by decide) h
  obtain ⟨_, h⟩ := cond0 (by decide) h
  obtain ⟨_, h⟩ := cond0 (by decide) h
  obtain ⟨_, h⟩ := cond0 (by decide) h
  obtain ⟨_, _, hpw⟩ := vEnts_ok l none h
  unfold Apart
  refine List.Pairwise.map _ (fun a b hab => ?_) hpw
  rw [lessE_iff] at hab
  intro e
  unfold callE at e
  injection e with e1 e2
  omega
theorem bids_ok {mem : List Int} {car : Int} {l : List En} (ha : Apart l) (hb : ∀ e ∈ l, e.bids.length ≤ 16) (hl : l.length ≤ 30) : ∀ (k : Nat), k ≤ (wantL mem car l).length →
    wantL mem car (bidsL mem car (wantL mem car l) l k) = (wantL mem car l).drop k ∧ (bidsL mem car (wantL mem car l) l k).map callE = l.map callE ∧ (bidsL mem car (wantL mem car l) l k).length = l.length ∧ ∀ e ∈ bidsL mem car (wantL mem car l) l k, e.bids.length ≤ 16 + k
  | 0, _ => ⟨rfl, rfl, rfl, hb⟩
  | k + 1, hk => by
    obtain ⟨h1, h2, h3, h4⟩ := bids_ok (mem := mem) (car := car) ha hb hl k (by omega)
    obtain ⟨c, hc, hd⟩ := at_i (show k < (wantL mem car l).length by omega)
    have hWl := want_len mem car l
    have hap : Apart (bidsL mem car (wantL mem car l) l k) := by unfold Apart; rw [h2]; exact ha
    have hk2 : k ≤ 1000 := by omega
    have hst := bid_step hk2 hap (h1.trans hd)
    have hnx : bidsL mem car (wantL mem car l) l (k + 1) = (bidL mem (car, (k : Int)) c (bidsL mem car (wantL mem car l) l k)).1 := by
      show (match (wantL mem car l)[k]? with | some c => _ | none => _) = _
      rw [hc]
    rw [hnx]
    exact ⟨hst.2.1, hst.2.2.1.trans h2, hst.2.2.2.1.trans h3, hst.2.2.2.2 _ h4⟩
theorem want_ok {cnt fdr hop : Int} {mem : List Int} {l : List En} (h : lightB cnt fdr hop mem l = true) (car : Int) : WantOK mem l car := by
  have ok := light_ok h
  have ha := light_apart h
  have hWl := want_len mem car l
  have hl := ok.ll
  refine ⟨fun k c hc => ?_, fun k hk => ?_⟩
  · have hk := (List.getElem?_eq_some_iff.1 hc).1
    obtain ⟨h1, h2, _, _⟩ := bids_ok (mem := mem) (car := car) ha ok.bl hl k (by omega)
    obtain ⟨h5, _, _, _⟩ := bids_ok (mem := mem) (car := car) ha ok.bl hl (k + 1) hk
    obtain ⟨c2, hc2, hd⟩ := at_i hk
    rw [hc] at hc2
    cases hc2
    have hap : Apart (bidsL mem car (wantL mem car l) l k) := by unfold Apart; rw [h2]; exact ha
    have hk2 : k ≤ 1000 := by omega
    refine ⟨(bid_step hk2 hap (h1.trans hd)).1, ?_⟩
    rw [h5, List.length_drop]
    omega
  · obtain ⟨_, _, h3, h4⟩ := bids_ok (mem := mem) (car := car) ha ok.bl hl k hk
    exact ⟨h3, h4⟩
end Go.Proofs.Ytkenimmellonjaa
