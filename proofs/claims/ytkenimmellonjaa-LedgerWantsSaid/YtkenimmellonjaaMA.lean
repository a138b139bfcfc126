/- Seat r2: what is awarded is somebody's: the plain law. -/
import Derived.Test.YtkenimmellonjaaZ
namespace Go.Proofs.Ytkenimmellonjaa
/-- What the walk wants of a ring that is light. -/
structure MineOK (mem : List Int) (l : List En) : Prop where
  ml : mem.length ≤ 16
  ll : l.length ≤ 30
  bl : ∀ e ∈ l, e.bids.length ≤ 16
  sum : (mem.map fun x => (mineL x (l.map (awE mem))).length).sum = ((l.map (awE mem)).filter fun e => decide (e.aw ≥ 0)).length
  apart : ∀ (i j : Nat) (x y : Int), mem[i]? = some x → mem[j]? = some y → j ≠ i → ∀ k ∈ mineL x (l.map (awE mem)), hasK (mineL y (l.map (awE mem))) k = false
  count : ((l.map (awE mem)).filter fun e => decide (e.aw ≥ 0)).length = (l.filter fun e => decide (e.aw ≥ 0)).length + (wonL mem l).length
  again : wonL mem (l.map (awE mem)) = []
  no1 : mineL (-1) (l.map (awE mem)) = []
  no99 : mineL 99 (l.map (awE mem)) = []
theorem cond0 {c : Bool} {k x : Int} (hk : k ≠ 0) (h : (bif c then k else x) = 0) : c = false ∧ x = 0 := by
  cases c with
  | true => exact absurd h hk
  | false => exact ⟨rfl, h⟩
theorem bor0 {a b : Bool} (h : (bif a then true else b) = false) : a = false ∧ b = false := by
  cases a with
  | true => cases h
  | false => exact ⟨rfl, h⟩
theorem lessE_iff (a b : En) : lessE a b = true ↔ a.fl < b.fl ∨ (a.fl = b.fl ∧ a.dr < b.dr) := by
  unfold lessE
  by_cases h : a.fl < b.fl
  · simp [h]
  · by_cases h2 : a.fl = b.fl
    · simp [h2]
    · simp [h, h2]
theorem lessE_trans {a b c : En} (h1 : lessE a b = true) (h2 : lessE b c = true) : lessE a c = true := by
  rw [lessE_iff] at *
  omega
theorem vEnts_ok {ms : List Int} : ∀ (l : List En) (p : Option En), vEnts ms p l = 0 → (∀ e ∈ l, badE ms e = false ∧ vBids ms e.bids = 0) ∧ (∀ q, p = some q → ∀ e ∈ l, lessE q e = true) ∧ l.Pairwise fun a b => lessE a b = true
  | [], _, _ => ⟨by simp, by simp, .nil⟩
  | e :: r, p, h => by
    rw [vEnts_cons] at h
    obtain ⟨h1, h⟩ := cond0 (by decide) h
    obtain ⟨h2, h⟩ := cond0 (by decide) h
    have h3 : vBids ms e.bids = 0 ∧ vEnts ms (some e) r = 0 := by
      cases hv : (vBids ms e.bids == 0) with
      | true => rw [hv] at h; exact ⟨by simpa using hv, h⟩
      | false => rw [hv] at h; have h : vBids ms e.bids = 0 := h; simp [h] at hv
    obtain ⟨i1, i2, i3⟩ := vEnts_ok r (some e) h3.2
    refine ⟨fun x hx => ?_, fun q hq x hx => ?_, .cons (i2 e rfl) i3⟩
    · rcases List.mem_cons.1 hx with rfl | hx
      · exact ⟨h1, h3.1⟩
      · exact i1 x hx
    · subst hq
      have h4 : lessE q e = true := by simpa using h2
      rcases List.mem_cons.1 hx with rfl | hx
      · exact h4
      · exact lessE_trans h4 (i2 e rfl x hx)
theorem vBids_ok {ms : List Int} {l : List B} (h : vBids ms l = 0) : ∀ b ∈ l, b.1 ∈ ms := by
  obtain ⟨_, h⟩ := cond0 (by decide) h
  obtain ⟨h, _⟩ := cond0 (by decide) h
  intro b hb
  have h1 : badB ms b = false := by simpa using (List.any_eq_false.1 h) b hb
  have h2 := (bor0 (bor0 h1).1).1
  simpa using h2
theorem leastFrom_mem : ∀ (l : List B) (b : B), leastFrom b l = b ∨ leastFrom b l ∈ l
  | [], _ => .inl rfl
  | x :: r, b => by
    show leastFrom (if lessB x b then x else b) r = b ∨ leastFrom (if lessB x b then x else b) r ∈ x :: r
    rcases leastFrom_mem r (if lessB x b then x else b) with h | h
    · rw [h]; split
      · exact .inr (List.mem_cons_self ..)
      · exact .inl rfl
    · exact .inr (List.mem_cons_of_mem _ h)
theorem leastB_mem {l : List B} (h : (leastB l).2 = true) : (leastB l).1 ∈ l := by
  cases l with
  | nil => cases h
  | cons b r =>
    show leastFrom b r ∈ b :: r
    rcases leastFrom_mem r b with h | h
    · rw [h]; exact List.mem_cons_self ..
    · exact List.mem_cons_of_mem _ h
theorem ascL_ok : ∀ {l : List Int}, ascL l = true → l.Pairwise (· < ·)
  | [], _ => .nil
  | [_], _ => by simp
  | x :: y :: r, h => by
    rw [ascL_two] at h
    cases hd : decide (x ≥ y) with
    | true => rw [hd] at h; cases h
    | false =>
      rw [hd] at h
      have h1 := ascL_ok (l := y :: r) h
      have hxy : x < y := by simpa using hd
      refine .cons (fun z hz => ?_) h1
      rcases List.mem_cons.1 hz with rfl | hz
      · exact hxy
      · exact Int.lt_trans hxy (List.rel_of_pairwise_cons h1 hz)
theorem ind_none (a : Int) : ∀ (m : List Int), a ∉ m → (m.map fun x => if a = x then 1 else 0).sum = 0
  | [], _ => rfl
  | x :: r, h => by
    rw [List.map_cons, List.sum_cons, ind_none a r (fun h1 => h (List.mem_cons_of_mem _ h1)), if_neg (fun e => h (by rw [e]; exact List.mem_cons_self ..))]
theorem ind_one (a : Int) : ∀ (m : List Int), m.Pairwise (· < ·) → a ∈ m → (m.map fun x => if a = x then 1 else 0).sum = 1
  | [], _, h => by cases h
  | x :: r, hp, h => by
    rw [List.map_cons, List.sum_cons]
    rcases List.mem_cons.1 h with h2 | h2
    · subst h2
      rw [if_pos rfl, ind_none a r fun h1 => Int.lt_irrefl _ (List.rel_of_pairwise_cons hp h1)]
    · rw [ind_one a r hp.of_cons h2, if_neg]
      intro e
      subst e
      exact Int.lt_irrefl _ (List.rel_of_pairwise_cons hp h2)
theorem sum_add (f g : Int → Nat) : ∀ (m : List Int), (m.map fun x => f x + g x).sum = (m.map f).sum + (m.map g).sum
  | [] => rfl
  | x :: r => by
    simp only [List.map_cons, List.sum_cons, sum_add f g r]; omega
theorem sum_zero : ∀ (m : List Int), (m.map fun _ => 0).sum = 0
  | [] => rfl
  | x :: r => by simp only [List.map_cons, List.sum_cons, sum_zero r]
theorem his_sum {m : List Int} (hp : m.Pairwise (· < ·)) : ∀ (L : List En), (∀ e ∈ L, e.aw ≥ 0 → e.aw ∈ m) → (m.map fun x => (mineL x L).length).sum = (L.filter fun e => decide (e.aw ≥ 0)).length
  | [], _ => sum_zero m
  | e :: r, h => by
    have ih := his_sum hp r fun x hx => h x (List.mem_cons_of_mem _ hx)
    have step : ∀ x, (mineL x (e :: r)).length = (if e.aw ≥ 0 ∧ e.aw = x then 1 else 0) + (mineL x r).length := by
      intro x
      simp only [mineL, List.length_map, List.filter_cons, hisE]
      by_cases h1 : 0 ≤ e.aw
      · by_cases h2 : e.aw = x
        · subst h2
          simp [h1]; omega
        · simp [h1, h2]
      · simp [h1]
    rw [show (fun x => (mineL x (e :: r)).length) = fun x => (if e.aw ≥ 0 ∧ e.aw = x then 1 else 0) + (mineL x r).length from funext step, sum_add, ih]
    by_cases h1 : e.aw ≥ 0
    · have h2 := ind_one e.aw m hp (h e (List.mem_cons_self ..) h1)
      simp only [h1, true_and, List.filter_cons, decide_true, if_true, List.length_cons]
      rw [h2]; omega
    · simp only [h1, false_and, if_false, List.filter_cons, decide_false]
      rw [sum_zero]; simp
theorem wonE_ok {ms : List Int} {e : En} (h : wonE ms e = true) : e.aw < 0 ∧ (leastB e.bids).2 = true := by
  unfold wonE at h
  cases h1 : decide (e.aw < 0) with
  | false => rw [h1] at h; cases h
  | true =>
    rw [h1] at h
    cases h2 : (leastB e.bids).2 with
    | false => rw [h2] at h; cases h
    | true => exact ⟨by simpa using h1, rfl⟩
theorem key_awE (ms : List Int) (e : En) : keyE (awE ms e) = keyE e := by
  unfold awE; split <;> rfl
theorem awE_bids (ms : List Int) (e : En) : (awE ms e).bids = e.bids := by
  unfold awE; split <;> rfl
theorem light_ok {cnt fdr hop : Int} {mem : List Int} {l : List En} (h : lightB cnt fdr hop mem l = true) : MineOK mem l := by
  unfold lightB at h
  cases hf : l.any fat with
  | true => rw [hf] at h; cases h
  | false =>
  rw [hf] at h
  have h : (bif bif decide ((mem.length : Int) ≤ 16) then decide ((l.length : Int) ≤ 30) else false then vRing cnt fdr hop mem l == 0 else false) = true := h
  cases h1 : decide ((mem.length : Int) ≤ 16) with
  | false => rw [h1] at h; cases h
  | true =>
  rw [h1] at h
  cases h2 : decide ((l.length : Int) ≤ 30) with
  | false => rw [h2] at h; cases h
  | true =>
  rw [h2] at h
  have h : (vRing cnt fdr hop mem l == 0) = true := h
  have h : vRing cnt fdr hop mem l = 0 := by simpa using h
  obtain ⟨_, h⟩ := cond0 (by decide) h
  obtain ⟨_, h⟩ := cond0 (by decide) h
  obtain ⟨hc, h⟩ := cond0 (by decide) h
  obtain ⟨ha, h⟩ := cond0 (by decide) h
  have hasc := ascL_ok (l := mem) (by simpa using ha)
  obtain ⟨hv, _, hpw⟩ := vEnts_ok l none h
  have hcar : ∀ x ∈ mem, 0 ≤ x ∧ x < 16 := by
    intro x hx
    have h3 : carB x = true := by simpa using (List.any_eq_false.1 hc) x hx
    unfold carB at h3
    by_cases h4 : 0 ≤ x
    · simp [h4] at h3; exact ⟨h4, h3⟩
    · simp [h4] at h3
  have haw : ∀ e ∈ l, e.aw = -1 ∨ e.aw ∈ mem := by
    intro e he
    have h3 := (bor0 (hv e he).1).2
    by_cases h4 : e.aw = -1
    · exact .inl h4
    · right
      have h5 : (!(e.aw == -1)) = true := by simp [h4]
      rw [h5] at h3
      simpa using h3
  have hwm : ∀ e ∈ l, wonE mem e = true → (leastB e.bids).1.1 ∈ mem := fun e he hw => vBids_ok (hv e he).2 _ (leastB_mem (wonE_ok hw).2)
  have hmem : ∀ e ∈ l.map (awE mem), e.aw = -1 ∨ e.aw ∈ mem := by
    intro e he
    obtain ⟨y, hy, rfl⟩ := List.mem_map.1 he
    cases hw : wonE mem y with
    | true => rw [awE, if_pos hw]; exact .inr (hwm y hy hw)
    | false => rw [awE_not hw]; exact haw y hy
  have hwe : ∀ e ∈ l, wonE mem (awE mem e) = false := by
    intro e he
    cases hw : wonE mem e with
    | false => rw [awE_not hw]; exact hw
    | true =>
      have h3 := hcar _ (hwm e he hw)
      rw [awE, if_pos hw]
      unfold wonE
      rw [show decide ((leastB e.bids).1.1 < 0) = false from decide_eq_false (by omega)]; rfl
  refine ⟨by have := of_decide_eq_true h1; omega, by have := of_decide_eq_true h2; omega, fun e he => ?_, ?_, ?_, ?_, ?_, ?_, ?_⟩
  · have h3 := (List.any_eq_false.1 hf) e he
    have h4 : ¬ ((e.bids.length : Int) > 16) := by simpa [fat] using h3
    omega
  · refine his_sum hasc _ fun e he h3 => (hmem e he).resolve_left (by omega)
  · intro i j x y hx hy hji k hk
    have hxy : x ≠ y := by
      intro e
      subst e
      obtain ⟨hi, hxi⟩ := List.getElem?_eq_some_iff.1 hx
      obtain ⟨hj, hxj⟩ := List.getElem?_eq_some_iff.1 hy
      rcases Nat.lt_or_gt_of_ne hji with h3 | h3
      · have := List.pairwise_iff_getElem.1 hasc j i hj hi h3; omega
      · have := List.pairwise_iff_getElem.1 hasc i j hi hj h3; omega
    have hpL : (l.map (awE mem)).Pairwise fun a b => keyE a ≠ keyE b := by
      rw [List.pairwise_map]
      refine hpw.imp fun {a b} hab => ?_
      rw [key_awE, key_awE]
      rw [lessE_iff] at hab
      simp only [keyE]
      intro e
      injection e with e1 e2
      injection e2 with e2 e3
      omega
    have huniq : ∀ a ∈ l.map (awE mem), ∀ b ∈ l.map (awE mem), keyE a = keyE b → a = b := by
      intro a ha b hb hab
      obtain ⟨p, hp, rfl⟩ := List.mem_iff_getElem.1 ha
      obtain ⟨q, hq, rfl⟩ := List.mem_iff_getElem.1 hb
      rcases Nat.lt_trichotomy p q with h3 | h3 | h3
      · exact absurd hab (List.pairwise_iff_getElem.1 hpL p q hp hq h3)
      · subst h3; rfl
      · exact absurd hab.symm (List.pairwise_iff_getElem.1 hpL q p hq hp h3)
    have his : ∀ {z : Int} {e : En}, hisE z e = true → e.aw = z := by
      intro z e h3
      unfold hisE at h3
      cases h4 : decide (0 ≤ e.aw) with
      | false => rw [h4] at h3; cases h3
      | true => rw [h4] at h3; simpa using h3
    refine List.any_eq_false.2 fun k2 hk2 hs => hxy ?_
    obtain ⟨a, ha, rfl⟩ := List.mem_map.1 hk
    obtain ⟨b, hb, rfl⟩ := List.mem_map.1 hk2
    obtain ⟨ha1, ha2⟩ := List.mem_filter.1 ha
    obtain ⟨hb1, hb2⟩ := List.mem_filter.1 hb
    have hk3 : keyE b = keyE a := by
      unfold sameK at hs
      have h5 : ((keyE b).1 = (keyE a).1 ∧ (keyE b).2.1 = (keyE a).2.1) ∧ (keyE b).2.2 = (keyE a).2.2 := by
        cases h6 : (keyE b).1 == (keyE a).1 with
        | false => rw [h6] at hs; cases hs
        | true =>
          rw [h6] at hs
          cases h7 : (keyE b).2.1 == (keyE a).2.1 with
          | false => rw [h7] at hs; cases hs
          | true => rw [h7] at hs; exact ⟨⟨by simpa using h6, by simpa using h7⟩, by simpa using hs⟩
      exact Prod.ext h5.1.1 (Prod.ext h5.1.2 h5.2)
    have := huniq b hb1 a ha1 hk3
    rw [← his ha2, ← his hb2, this]
  · have : ∀ (r : List En), (∀ e ∈ r, e ∈ l) → ((r.map (awE mem)).filter fun e => decide (e.aw ≥ 0)).length = (r.filter fun e => decide (e.aw ≥ 0)).length + (wonL mem r).length := by
      intro r
      induction r with
      | nil => intro _; rfl
      | cons e r ih =>
        intro hr
        have ih := ih fun x hx => hr x (List.mem_cons_of_mem _ hx)
        have he := hr e (List.mem_cons_self ..)
        cases hw : wonE mem e with
        | true =>
          have h3 := hcar _ (hwm e he hw)
          have h4 := (wonE_ok hw).1
          have h5 : (awE mem e).aw = (leastB e.bids).1.1 := by rw [awE, if_pos hw]
          rw [List.map_cons, List.filter_cons, h5, if_pos (by simpa using h3.1), List.filter_cons, if_neg (by simp; omega), List.length_cons, ih]
          simp only [wonL, List.filter_cons, hw, if_true, List.map_cons, List.length_cons]
          omega
        | false =>
          rw [List.map_cons, awE_not hw, List.filter_cons, List.filter_cons]
          have h6 : (wonL mem (e :: r)).length = (wonL mem r).length := by simp [wonL, hw]
          rw [h6]
          split
          · rw [List.length_cons, List.length_cons, ih]; omega
          · exact ih
    exact this l fun _ h => h
  · rw [wonL, List.filter_eq_nil_iff.2, List.map_nil]
    intro e he
    obtain ⟨y, hy, rfl⟩ := List.mem_map.1 he
    rw [hwe y hy]; decide
  · rw [mineL, List.filter_eq_nil_iff.2, List.map_nil]
    intro e he
    unfold hisE
    by_cases h3 : 0 ≤ e.aw
    · simp [h3]; omega
    · simp [h3]
  · rw [mineL, List.filter_eq_nil_iff.2, List.map_nil]
    intro e he
    unfold hisE
    rcases hmem e he with h3 | h3
    · simp [h3]
    · have h4 := hcar _ h3
      simp [h4.1]; omega
end Go.Proofs.Ytkenimmellonjaa
