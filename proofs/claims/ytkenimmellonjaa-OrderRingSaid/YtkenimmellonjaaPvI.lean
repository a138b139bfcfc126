/- A region in every order: the step, and the whole. -/
import Derived.Test.YtkenimmellonjaaPvH
namespace Go.Pv
open Go.RowKit
section
variable {P : Program} {G : Gl} {env : Env} {s : List (Nat × AB)} {nt : Nat} {ops : List Oper} {its : List It} {L0 : List AB} {M0 M : Mp} {F0 U0 F U : Nat → Prop} {w0 w : World} {a0 a : Act} {listed : Array Bool}

theorem lsd_set {listed : Array Bool} {i j : Nat} (hi : i < listed.size) : Lsd (listed.setIfInBounds i true) j ↔ Lsd listed j ∨ j = i := by
  unfold Lsd
  by_cases h : i = j
  · subst h
    simp [hi]
  · rw [Array.getD_eq_getD_getElem?, Array.getElem?_setIfInBounds_ne h, ← Array.getD_eq_getD_getElem?]
    exact ⟨.inl, fun h' => h'.resolve_right (fun e => h e.symm)⟩

theorem slotv_put {a : Act} {dst : Option Nat} {v : Value} {t : Nat} (hd : ∀ d, dst = some d → d < a.tmps.size) : slotv (a.put dst v) t = if dst = some t then v else slotv a t := by
  cases dst with
  | none => simp [Act.put]
  | some d =>
    have := hd d rfl
    unfold slotv Act.put
    simp only [Array.getD_eq_getD_getElem?, Option.some.injEq]
    by_cases h : d = t
    · subst h
      rw [Array.getElem?_setIfInBounds_self_of_lt this]
      simp
    · rw [Array.getElem?_setIfInBounds_ne h, if_neg h]
theorem size_put {a : Act} {dst : Option Nat} {v : Value} : (a.put dst v).tmps.size = a.tmps.size := by
  cases dst <;> simp [Act.put]
theorem defers_put {a : Act} {dst : Option Nat} {v : Value} : (a.put dst v).defers = a.defers := by
  cases dst <;> simp [Act.put]

/-- Dst of two operations of a region are two. -/
theorem dst_ne (hR : Reg P G env s nt ops its L0) {i j : Nat} {it itj : It} (hi : its[i]? = some it) (hj : its[j]? = some itj) (hne : i ≠ j) {t : Nat} (h1 : it.o.dst = some t) (h2 : itj.o.dst = some t) : False := by
  rcases Nat.lt_or_ge i j with h | h
  · exact rlook_none (okop_dst (hR.ok j itj hj) h2).2 i it h hi h1
  · exact rlook_none (okop_dst (hR.ok i it hi) h1).2 j itj (by omega) hj h2

theorem st_cut (hI : Inv G s nt its L0 M0 F0 U0 w0 a0 listed a w M F U) {i : Nat} (hi : i ≤ its.length) : St (M.cut (Lat its L0 i).length) F U (Lat its L0 i) s w := by
  obtain ⟨X, hX⟩ := Lat_le (its := its) (L0 := L0) hi
  have hS := hI.st
  rw [hX] at hS
  refine hS.cut (fun k ab b hk hm => ?_)
  -- who laid it
  have key : ∀ i, i ≤ its.length → ∀ k ab b, (Lat its L0 i)[k]? = some ab → M.l k = some b → RB (M.cut (Lat its L0 i).length) F w b ab := by
    intro i
    induction i with
    | zero =>
      intro _ k ab b hk hm
      have h0 : Lat its L0 0 = L0 := by simp [Lat]
      rw [h0] at hk ⊢
      exact hI.loc0 k ab b hk hm
    | succ n ih =>
      intro hn k ab b hk hm
      have hit : its[n]? = some its[n] := List.getElem?_eq_getElem (by omega)
      by_cases hlt : k < (Lat its L0 n).length
      · rw [Lat_succ hit, List.getElem?_append_left hlt] at hk
        refine (ih (by omega) k ab b hk hm).mono (Mp.cut_mono (.refl M) (Lat_len_le (Nat.le_succ n))) (fun _ h => h) hI.st.FU (.refl _ _) (fun _ => rfl)
      · exact hI.loc n _ hit k ab b (by omega) hk hm
  exact key i hi k ab b hk hm

theorem inv_put (hR : Reg P G env s nt ops its L0) (hI : Inv G s nt its L0 M0 F0 U0 w0 a0 listed a w M F U) {i : Nat} {it : It} (hit : its[i]? = some it) (hni : ¬ Lsd listed i) (his : i < listed.size)
    (hg : HG (reat its i) (gsAt its i it)) {val : Value} {M' : Mp} {F' U' : Nat → Prop} {w' : World} (hG : Grew (M.cut (Lat its L0 i).length) F U w (Lat its L0 i) s it.new it.v val M' F' U' w') :
    ∃ Mn, Inv G s nt its L0 M0 F0 U0 w0 a0 (listed.setIfInBounds i true) (a.put it.o.dst val) w' Mn F' U' := by
  have hil : i < its.length := (List.getElem?_eq_some_iff.1 hit).1
  have hLs := Lat_succ (L0 := L0) hit
  have hFlt : ∀ b, F b → b < w.heap.size := fun b hb => hI.st.Ult b (hI.st.FU b hb)
  let n0 := (Lat its L0 i).length
  let n1 := (Lat its L0 (i + 1)).length
  have hn01 : n0 ≤ n1 := Lat_len_le (Nat.le_succ i)
  have hM'dom : ∀ k, n1 ≤ k → M'.l k = none := fun k hk => hG.st.dom k (by rw [← hLs]; exact hk)
  have hM'old : ∀ k, k < n0 → M'.l k = M.l k := fun k hk => by
    rw [hG.old k hk]
    simp only [Mp.cut]
    rw [if_pos hk]
  have hMun : ∀ k, n0 ≤ k → k < n1 → M.l k = none := hI.un i it hit hni
  let Mn : Mp := ⟨fun k => if k < n1 then M'.l k else M.l k, M'.g⟩
  have hMMn : M.Le Mn := fun r b hb => by
    cases r with
    | g id => exact hG.le (.g id) b hb
    | l k =>
      simp only [Mp.at_, Mn] at hb ⊢
      split
      · rename_i hk
        rcases Nat.lt_or_ge k n0 with h | h
        · rw [hM'old k h]; exact hb
        · rw [hMun k h hk] at hb; cases hb
      · exact hb
  have hM'Mn : M'.Le Mn := fun r b hb => by
    cases r with
    | g id => exact hb
    | l k =>
      simp only [Mp.at_, Mn] at hb ⊢
      split
      · exact hb
      · rw [hM'dom k (by omega)] at hb; cases hb
  have hM'cut : M'.Le (Mn.cut n1) := Mp.le_cut hM'Mn hM'dom
  have hcutM' : ∀ n, n1 ≤ n → M'.Le (Mn.cut n) := fun n hn => Mp.le_cut hM'Mn (fun k hk => hM'dom k (by omega))
  obtain ⟨X, hX⟩ := Lat_le (its := its) (L0 := L0) (i := i + 1) (j := its.length) hil
  have hget1 : ∀ k, k < n1 → (Lat its L0 its.length)[k]? = (Lat its L0 (i + 1))[k]? := fun k hk => by
    rw [hX, List.getElem?_append_left hk]
  have hMnl : ∀ k, k < n1 → Mn.l k = M'.l k := fun k hk => by simp only [Mn]; rw [if_pos hk]
  have hMnr : ∀ k, n1 ≤ k → Mn.l k = M.l k := fun k hk => by simp only [Mn]; rw [if_neg (by omega)]
  have hS' := hG.st
  rw [← hLs] at hS'
  -- where a live place of the whole lies
  have hcase : ∀ r ab, Here (Lat its L0 its.length) s r ab → (Here (Lat its L0 (i + 1)) s r ab ∧ Mn.at_ r = M'.at_ r) ∨ (∃ k, r = .l k ∧ n1 ≤ k ∧ Mn.at_ r = M.at_ r) := by
    intro r ab hr
    cases r with
    | g id => exact .inl ⟨hr, rfl⟩
    | l k =>
      rcases Nat.lt_or_ge k n1 with h | h
      · refine .inl ⟨?_, hMnl k h⟩
        simp only [Here] at hr ⊢
        rw [hget1 k h] at hr
        exact hr
      · exact .inr ⟨k, rfl, h, hMnr k h⟩
  have hMl_of : ∀ r b, (∀ k, r = .l k → k < n1) → M'.at_ r = some b → (∃ ab, Here (Lat its L0 (i + 1)) s r ab) → w.heap.size ≤ b ∨ M.at_ r = some b := by
    intro r b hk hb ⟨ab, hab⟩
    cases r with
    | g id =>
      obtain ⟨b', hb'⟩ := hI.st.tot id ab hab
      have := hG.le (.g id) b' hb'
      simp only [Mp.at_] at this hb
      rw [hb] at this
      cases this
      exact .inr hb'
    | l k =>
      have hk' := hk k rfl
      rcases Nat.lt_or_ge k n0 with h | h
      · right
        simp only [Mp.at_] at hb ⊢
        rw [← hM'old k h]; exact hb
      · exact .inl (hG.fresh k b h hb)
  have hx := hG.ext
  have hnew : St Mn F' U' (Lat its L0 its.length) s w' := by
    refine ⟨fun r ab b hr hm => ?_, fun r r' a1 a2 b h1 h2 d1 d2 m1 m2 => ?_, fun r ab b hr hd hm hu => ?_, hS'.nd, hS'.FU, hS'.Ult, fun k hk => ?_, hS'.tot, hS'.gdom⟩
    · rcases hcase r ab hr with ⟨h, he⟩ | ⟨k, rfl, hk, he⟩
      · rw [he] at hm
        exact (hS'.rb r ab b h hm).mono (hM'Mn.sub r) (fun _ h => h) hS'.FU (.refl _ _) (fun _ => rfl)
      · rw [he] at hm
        exact (hI.st.rb (.l k) ab b hr hm).mono (hMMn.sub _) hG.FF hFlt hx (fun hd => hx.block b (hI.st.lt hr hd hm))
    · have one : ∀ r ab b, Here (Lat its L0 its.length) s r ab → ab ≠ .dead → Mn.at_ r = some b → (∃ k, r = .l k ∧ n1 ≤ k) → M.at_ r = some b ∧ b < w.heap.size := by
        rintro r ab b hr hd hm ⟨k, rfl, hk⟩
        have : M.at_ (.l k) = some b := by rw [← hm]; exact (hMnr k hk).symm
        exact ⟨this, hI.st.lt hr hd this⟩
      rcases hcase r a1 h1 with ⟨k1, e1⟩ | ⟨k, rfl, hk, e1⟩ <;> rcases hcase r' a2 h2 with ⟨k2, e2⟩ | ⟨k', rfl, hk', e2⟩
      · exact hS'.inj r r' a1 a2 b k1 k2 d1 d2 (by rw [← e1]; exact m1) (by rw [← e2]; exact m2)
      · obtain ⟨q1, q2⟩ := one _ a2 b h2 d2 m2 ⟨k', rfl, hk'⟩
        rw [e1] at m1
        have hr1 : ∀ k, r = .l k → k < n1 := fun k e => by
          subst e
          exact (List.getElem?_eq_some_iff.1 (show (Lat its L0 (i + 1))[k]? = some a1 from k1)).1
        rcases hMl_of r b hr1 m1 ⟨a1, k1⟩ with h | h
        · omega
        · exact hI.st.inj r (.l k') a1 a2 b h1 h2 d1 d2 h q1
      · obtain ⟨q1, q2⟩ := one _ a1 b h1 d1 m1 ⟨k, rfl, hk⟩
        rw [e2] at m2
        have hr2 : ∀ k, r' = .l k → k < n1 := fun k e => by
          subst e
          exact (List.getElem?_eq_some_iff.1 (show (Lat its L0 (i + 1))[k]? = some a2 from k2)).1
        rcases hMl_of r' b hr2 m2 ⟨a2, k2⟩ with h | h
        · omega
        · exact hI.st.inj (.l k) r' a1 a2 b h1 h2 d1 d2 q1 h
      · rw [e1] at m1; rw [e2] at m2
        exact hI.st.inj _ _ a1 a2 b h1 h2 d1 d2 m1 m2
    · rcases hcase r ab hr with ⟨h, he⟩ | ⟨k, rfl, hk, he⟩
      · exact hS'.nU r ab b h hd (by rw [← he]; exact hm) hu
      · rw [he] at hm
        rcases hG.Un b hu with h | h
        · exact hI.st.nU (.l k) ab b hr hd hm h
        · have := hI.st.lt hr hd hm; omega
    · have : n1 ≤ k := Nat.le_trans (Lat_len_le hil) hk
      rw [hMnr k this]
      exact hI.st.dom k hk
  have hdlt : ∀ d, it.o.dst = some d → d < a.tmps.size := fun d hd => by rw [hI.size]; exact (okop_dst (hR.ok i it hit) hd).1
  have hext0 : Ext (fun b => b < w0.heap.size) w0 w' := hI.ext.trans hx (fun b hb => Nat.lt_of_lt_of_le hb hI.ext.size)
  have hcutMn : ∀ n, (M.cut n).Le (Mn.cut n) := fun n => Mp.cut_mono hMMn (Nat.le_refl n)
  refine ⟨Mn, hnew, hI.gl.mono hG.FF hFlt hx, hI.le.trans hMMn, fun b hb => hG.FF b (hI.FF b hb), fun b hb => hG.UU b (hI.UU b hb), hext0, ?_, ?_, ?_, ?_, ?_, by rw [size_put]; exact hI.size, by rw [defers_put]; exact hI.defers, ?_, fun b hb => ?_⟩
  · -- loc0
    intro n ab b hn hm
    have hnl : n < L0.length := (List.getElem?_eq_some_iff.1 hn).1
    have h0 : L0.length ≤ n0 := by
      have := Lat_len_le (its := its) (L0 := L0) (Nat.zero_le i)
      have h0 : (Lat its L0 0).length = L0.length := by simp [Lat]
      omega
    have hm' : M.l n = some b := by rw [hMnl n (by omega), hM'old n (by omega)] at hm; exact hm
    refine (hI.loc0 n ab b hn hm').mono (hcutMn _) hG.FF hFlt hx (fun hd => hx.block b ?_)
    have hr : Here (Lat its L0 its.length) s (.l n) ab := by
      obtain ⟨X', hX'⟩ := Lat_le (its := its) (L0 := L0) (Nat.zero_le its.length)
      simp only [Here]
      rw [hX', List.getElem?_append_left (by simp [Lat]; exact hnl)]
      simpa [Lat] using hn
    exact hI.st.lt hr hd hm'
  · -- loc
    intro j itj hj n ab b hn0 hn hm
    have hnl : n < (Lat its L0 (j + 1)).length := (List.getElem?_eq_some_iff.1 hn).1
    have hjl : j < its.length := (List.getElem?_eq_some_iff.1 hj).1
    have hr : Here (Lat its L0 its.length) s (.l n) ab := by
      obtain ⟨X', hX'⟩ := Lat_le (its := its) (L0 := L0) (i := j + 1) (j := its.length) hjl
      simp only [Here]
      rw [hX', List.getElem?_append_left hnl]
      exact hn
    by_cases hji : j = i
    · subst hji
      rw [hj] at hit
      cases hit
      rw [hMnl n hnl] at hm
      have := hS'.rb (.l n) ab b hn hm
      exact this.mono (hM'cut.trans (.refl _)) (fun _ h => h) hS'.FU (.refl _ _) (fun _ => rfl)
    · have hm' : M.l n = some b := by
        rcases Nat.lt_or_ge j i with h | h
        · have : (Lat its L0 (j + 1)).length ≤ n0 := Lat_len_le h
          rw [hMnl n (by omega), hM'old n (by omega)] at hm
          exact hm
        · have : n1 ≤ (Lat its L0 j).length := Lat_len_le (by omega)
          rw [hMnr n (by omega)] at hm
          exact hm
      exact (hI.loc j itj hj n ab b hn0 hn hm').mono (hcutMn _) hG.FF hFlt hx (fun hd => hx.block b (hI.st.lt hr hd hm'))
  · -- slot
    intro j itj hj hl d hd
    rw [lsd_set his] at hl
    rw [slotv_put hdlt]
    by_cases hji : j = i
    · subst hji
      rw [hj] at hit
      cases hit
      rw [if_pos hd]
      exact ⟨fun _ => hG.rv.mono hM'cut (fun _ h => h) hS'.FU (.refl _ _), fun h => absurd hg h⟩
    · rw [if_neg (fun h => dst_ne hR hit hj (fun e => hji e.symm) h hd)]
      obtain ⟨q1, q2⟩ := hI.slot j itj hj (hl.resolve_right hji) d hd
      exact ⟨fun h => (q1 h).mono (hcutMn _) hG.FF hFlt hx, q2⟩
  · -- un
    intro j itj hj hl n hn0 hn1
    rw [lsd_set his] at hl
    have hji : j ≠ i := fun e => hl (.inr e)
    have hm := hI.un j itj hj (fun h => hl (.inl h)) n hn0 hn1
    rcases Nat.lt_or_ge j i with h | h
    · have : (Lat its L0 (j + 1)).length ≤ n0 := Lat_len_le h
      rw [hMnl n (by omega), hM'old n (by omega)]
      exact hm
    · have : n1 ≤ (Lat its L0 j).length := Lat_len_le (by omega)
      rw [hMnr n (by omega)]
      exact hm
  · -- other
    intro t ht
    rw [slotv_put hdlt, if_neg (ht i it hit ((lsd_set his).2 (.inr rfl)))]
    exact hI.other t (fun j itj hj hl => ht j itj hj ((lsd_set his).2 (.inl hl)))
  · -- fr
    intro k b hb
    have hsz := hI.ext.size
    rcases Nat.lt_or_ge k n1 with h | h
    · rw [hMnl k h] at hb
      rcases Nat.lt_or_ge k n0 with h' | h'
      · rw [hM'old k h'] at hb; exact hI.fr k b hb
      · have := hG.fresh k b h' hb; exact .inr (by omega)
    · rw [hMnr k h] at hb; exact hI.fr k b hb
  · have hsz := hI.ext.size
    rcases hG.Fn b hb with h | h
    · exact hI.Fn b h
    · exact .inr (by omega)

theorem inv_skip (hR : Reg P G env s nt ops its L0) (hI : Inv G s nt its L0 M0 F0 U0 w0 a0 listed a w M F U) {i : Nat} {it : It} (hit : its[i]? = some it) (his : i < listed.size)
    (hg : ¬ HG (reat its i) (gsAt its i it)) : Inv G s nt its L0 M0 F0 U0 w0 a0 (listed.setIfInBounds i true) (a.put it.o.dst Go.undef) w M F U := by
  have hdlt : ∀ d, it.o.dst = some d → d < a.tmps.size := fun d hd => by rw [hI.size]; exact (okop_dst (hR.ok i it hit) hd).1
  refine ⟨hI.st, hI.gl, hI.le, hI.FF, hI.UU, hI.ext, hI.loc0, hI.loc, fun j itj hj hl d hd => ?_, fun j itj hj hl => hI.un j itj hj (fun h => hl ((lsd_set his).2 (.inl h))), fun t ht => ?_, by rw [size_put]; exact hI.size, by rw [defers_put]; exact hI.defers, hI.fr, hI.Fn⟩
  · rw [lsd_set his] at hl
    rw [slotv_put hdlt]
    by_cases hji : j = i
    · subst hji
      rw [hj] at hit
      cases hit
      rw [if_pos hd]
      exact ⟨fun h => absurd h hg, fun _ => rfl⟩
    · rw [if_neg (fun h => dst_ne hR hit hj (fun e => hji e.symm) h hd)]
      exact hI.slot j itj hj (hl.resolve_right hji) d hd
  · rw [slotv_put hdlt, if_neg (ht i it hit ((lsd_set his).2 (.inr rfl)))]
    exact hI.other t (fun j itj hj hl => ht j itj hj ((lsd_set his).2 (.inl hl)))

/-- The step. -/
theorem step_any {Q : Exit → Act → World → Prop} (hR : Reg P G env s nt ops its L0) (hI : Inv G s nt its L0 M0 F0 U0 w0 a0 listed a w M F U) (hS0 : St M0 F0 U0 L0 s w0) (henv : ∀ t, RV M0 F0 w0 (look env t) (slotv a0 t))
    (hc : Closed ops listed) {i : Nat} {it : It} (hit : its[i]? = some it) (hni : ¬ Lsd listed i) (his : i < listed.size) (hdeps : ∀ e ∈ it.o.after.toList, Region.binds .any e = true → Lsd listed e.on) :
    wpOp P ops.toArray Q i (fun a' w' => ∃ M' F' U', Inv G s nt its L0 M0 F0 U0 w0 a0 (listed.setIfInBounds i true) a' w' M' F' U') a w := by
  have hoi := hR.pre i it hit
  have hmet := guard_met hR hI hc hit hdeps
  unfold wpOp
  simp only [List.getElem?_toArray, hoi]
  by_cases hw : Region.wanted it.o (yielded ops.toArray a.tmps) = true
  · rw [if_pos hw]
    have hg := hmet.1 hw
    left
    refine wp_noQ (Oper.wp_mono ?_ (hR.pj i it hit hg (M.cut (Lat its L0 i).length) F U w a (st_cut hI (Nat.le_of_lt (List.getElem?_eq_some_iff.1 hit).1)) hI.gl (opn hR hI hS0 henv hc hit hni hdeps hg)))
    rintro a' w' ⟨val, M', F', U', rfl, hG⟩
    obtain ⟨Mn, h⟩ := inv_put hR hI hit hni his hg hG
    exact ⟨Mn, F', U', h⟩
  · rw [if_neg hw]
    exact ⟨M, F, U, inv_skip hR hI hit his (fun h => hw (hmet.2 h))⟩

end
end Go.Pv
