/- The seat's texts, part 4: what single functions of the program compute; no statement of its own. -/
import Derived.Test.YtkenimmellonjaaGC
import Derived.Test.YtkenimmellonjaaGB
import Derived.Test.YtkenimmellonjaaGA
import Derived.Shelf.SlMaps.Clone
import Derived.Tactics
import Derived.Deep.RegionHeld3
import Derived.Sort.Grow
/- Seat r2: a map's copy. -/
namespace Go.Proofs.Ytkenimmellonjaa
open Go.RowKit Go.Maps Go.Shelf
set_option maxRecDepth 100000 in
set_option maxHeartbeats 1000000 in
theorem clone84W (b : Nat) (es : Array MapEntry) (clock : Nat) (w : World) (hb : w.heap[b]? = some (.map es clock)) :
    Calls Try.prog 84 #[.map (some b)] w fun e w' => e = .returned (.map (some w.heap.size)) ∧ w' = w.alloc (.map es clock) := by
  have hq := fun w => run_eql_map_nil_sl (P := Try.prog) w 31 _ _ (some b) Try.underlying31
  go_enter Try.func84, Try.ntmps84
  go_wp2
  rw [run_callFunc_extern Try.func115 (by kernel_rfl) (by kernel_rfl) (by kernel_rfl) (e := Extern.MapsClone.clone) (by kernel_rfl), run_maps_clone_sl w 31 hb]
  simp only [Result.andThen]
  rw [Oper.upon_value]
  go_wp2
  rw [run_typeAssert_map_sl _ 31 20 _ _ _ Try.underlying31]
  simp only [Result.andThen]
  rw [Oper.upon_value]
  go_wp2
  go_ret
  exact ⟨rfl, rfl⟩
set_option maxRecDepth 100000 in
set_option maxHeartbeats 1000000 in
theorem cloneN84W (w : World) : Calls Try.prog 84 #[.map none] w fun e w' => e = .returned (.map none) ∧ w' = w := by
  have hq := fun w => run_eql_map_nil_sl (P := Try.prog) w 31 _ _ none Try.underlying31
  go_enter Try.func84, Try.ntmps84
  go_wp2
  go_ret
  exact ⟨rfl, rfl⟩
open Go.Pv
theorem clone84N : Contract Try.prog G0 84 [.d (.raw (.map .none))] [] (fun r t => r = .d (.raw (.map .none)) ∧ t = []) := by
  refine ⟨enters_of Try.func84 (by kernel_rfl) rfl, fun g F U w vals hS hG hlv hv => ?_⟩
  obtain ⟨v, rfl⟩ : ∃ v, vals = [v] := by
    match vals, hlv with
    | [v], _ => exact ⟨v, rfl⟩
  have hrv := hv 0 _ v rfl rfl
  obtain rfl : v = .map none := by
    cases hrv with
    | d h => cases h; rfl
  refine (cloneN84W w).mono ?_
  rintro e w' ⟨rfl, rfl⟩
  exact ⟨_, .d (.raw (.map .none)), _, g, F, U, rfl, ⟨rfl, rfl⟩, fun _ _ h => h, fun id ab h => .inl ⟨ab, h⟩, fun _ h => h, fun _ h => h, fun _ h => .inl h, .refl _ _, hS, .d (.raw _ rfl)⟩
theorem clone84 (l : List Kl) : Contract Try.prog G0 84 [.mp (.g 0)] [(0, .dmap (encL l))] (fun r t => r = .mp (.g 1) ∧ t = [(0, .dmap (encL l)), (1, .dmap (encL l))]) := by
  refine ⟨enters_of Try.func84 (by kernel_rfl) rfl, fun g F U w vals hS hG hlv hv => ?_⟩
  obtain ⟨v, rfl⟩ : ∃ v, vals = [v] := by
    match vals, hlv with
    | [v], _ => exact ⟨v, rfl⟩
  have hrv := hv 0 _ v rfl rfl
  obtain ⟨b, hgb, rfl⟩ : ∃ b, g 0 = some b ∧ v = .map (some b) := by
    cases hrv with
    | mp _ b h => exact ⟨b, h, rfl⟩
  obtain ⟨ents, clock, hb, h2, h3, h4, h5⟩ := hS.rb (.g 0) (.dmap (encL l)) b (by simp [Here]) hgb
  have hUl := hS.Ult
  have hgl : ∀ i ab x, (i, ab) ∈ [(0, AB.dmap (encL l))] → ab ≠ .dead → g i = some x → x < w.heap.size := fun i ab x hi hd hx => RB.lt (hS.rb (.g i) ab x hi hx) hd
  refine (clone84W b ents clock w hb).mono ?_
  rintro e w' ⟨rfl, rfl⟩
  have hBe : Below w.heap.size w (w.alloc (.map ents clock)) := (Below.refl _ w).alloc (Nat.le_refl _) _
  have hS2 := St.later hS hBe
  have h1 : g 1 = none := hS.gdom 1 (by simp)
  have hle : ∀ i x, g i = some x → (if i = 1 then some w.heap.size else g i) = some x := fun i x hx => by
    rw [if_neg (fun e => by rw [e, h1] at hx; cases hx)]; exact hx
  obtain ⟨ents', clock', hb', q2, q3, q4, q5⟩ := hS2.rb (.g 0) (.dmap (encL l)) b (by simp [Here]) hgb
  have hsame : ents' = ents ∧ clock' = clock := by
    have := (Below.heap_alloc w (.map ents clock) b (Array.getElem?_eq_some_iff.1 hb).1).trans hb
    rw [this] at hb'
    cases hb'
    exact ⟨rfl, rfl⟩
  obtain ⟨rfl, rfl⟩ := hsame
  have hLe : Mp.Le ⟨fun _ => none, g⟩ ⟨fun _ => none, fun i => if i = 1 then some w.heap.size else g i⟩ := by
    intro r x hx
    cases r with
    | l k => cases hx
    | g i => exact hle i x hx
  have hRB : RB ⟨fun _ => none, fun i => if i = 1 then some w.heap.size else g i⟩ F (w.alloc (.map ents' clock')) w.heap.size (.dmap (encL l)) :=
    ⟨ents', clock', (MapKept.heap_alloc w _).1, q2, fun i e x he hx => by
      have := q3 i e x he hx
      exact ⟨this.1.mono hLe (fun _ h => h) (fun b hb => hS.FU b hb) (.refl _ _), this.2.mono hLe (fun _ h => h) (fun b hb => hS.FU b hb) (.refl _ _)⟩, q4, q5⟩
  refine ⟨_, .mp (.g 1), _, fun i => if i = 1 then some w.heap.size else g i, F, U, rfl, ⟨rfl, rfl⟩, hle, fun id ab h => ?_, fun _ h => h, fun _ h => h, fun _ h => .inl h, ext_below hBe hUl, ?_, ?_⟩
  · rcases List.mem_append.1 (show (id, ab) ∈ [(0, AB.dmap (encL l))] ++ [(1, AB.dmap (encL l))] from h) with h | h
    · exact .inl ⟨ab, h⟩
    · cases List.mem_singleton.1 h
      exact .inr h1
  · exact St.add (B := w.heap.size) hS2 hUl hgl (by simp) (Nat.le_refl _) hRB
  · exact .mp (.g 1) _ (by simp [Mp.at_])
end Go.Proofs.Ytkenimmellonjaa
/- Seat r2: sets of calls: the plain laws. -/
namespace Go.Proofs.Ytkenimmellonjaa
open Go.Pv
def puts (ks : List Kl) : List Kl := ks.foldl putL []
theorem puts_snoc (ks : List Kl) (k : Kl) : puts (ks ++ [k]) = putL (puts ks) k := by simp [puts]
theorem fold_ks : ∀ (ks l : List Kl), Ks l → Ks (ks.foldl putL l)
  | [], _, h => h
  | k :: r, l, h => fold_ks r (putL l k) (aput_nodup h k)
theorem puts_ks (ks : List Kl) : Ks (puts ks) := fold_ks ks [] .nil
theorem putL_mem {l : List Kl} {k x : Kl} (h : x ∈ putL l k) : x = k ∨ x ∈ l := by
  rcases aput_mem h with h | ⟨h, _⟩ | h
  · exact .inl h
  · exact .inr h
  · exact .inr h
theorem fold_mem : ∀ (ks l : List Kl) {x : Kl}, x ∈ ks.foldl putL l → x ∈ ks ∨ x ∈ l
  | [], _, _, h => .inr h
  | k :: r, l, x, h => by
    rcases fold_mem r (putL l k) h with h | h
    · exact .inl (List.mem_cons_of_mem _ h)
    · rcases putL_mem h with rfl | h
      · exact .inl (List.mem_cons_self ..)
      · exact .inr h
theorem puts_mem {ks : List Kl} {x : Kl} (h : x ∈ puts ks) : x ∈ ks := by
  rcases fold_mem ks [] h with h | h
  · exact h
  · cases h
theorem putL_key {l : List Kl} {k : Kl} {c : Int × Int} (h : c = keyC k ∨ c ∈ l.map keyC) : c ∈ (putL l k).map keyC := by
  show c ∈ (aput keyC l k).map keyC
  rw [aput_keys]
  split
  · rename_i hk
    rcases h with rfl | h
    · exact hk
    · exact h
  · rcases h with rfl | h
    · exact List.mem_append_right _ (List.mem_singleton.2 rfl)
    · exact List.mem_append_left _ h
theorem fold_key : ∀ (ks l : List Kl) {c : Int × Int}, (c ∈ ks.map keyC ∨ c ∈ l.map keyC) → c ∈ (ks.foldl putL l).map keyC
  | [], _, _, h => by
    rcases h with h | h
    · cases h
    · exact h
  | k :: r, l, c, h => by
    refine fold_key r (putL l k) ?_
    rcases h with h | h
    · rcases List.mem_cons.1 h with h | h
      · exact .inr (putL_key (.inl h))
      · exact .inl h
    · exact .inr (putL_key (.inr h))
theorem puts_key {ks : List Kl} {k : Kl} (h : k ∈ ks) : keyC k ∈ (puts ks).map keyC := fold_key ks [] (.inl (List.mem_map_of_mem h))
theorem puts_ne {ks : List Kl} (h : ks ≠ []) : puts ks ≠ [] := by
  intro e
  cases ks with
  | nil => exact h rfl
  | cons k r =>
    have := puts_key (ks := k :: r) (List.mem_cons_self ..)
    rw [e] at this
    cases this
theorem putL_len (l : List Kl) (k : Kl) : (putL l k).length ≤ l.length + 1 := by
  have : ((aput keyC l k).map keyC).length ≤ l.length + 1 := by
    rw [aput_keys]
    split
    · simp
    · simp
  simpa using this
theorem fold_len : ∀ (ks l : List Kl), (ks.foldl putL l).length ≤ l.length + ks.length
  | [], _ => by simp
  | k :: r, l => by
    have h1 := fold_len r (putL l k)
    have h2 := putL_len l k
    simp only [List.foldl_cons, List.length_cons]
    omega
theorem puts_len (ks : List Kl) : (puts ks).length ≤ ks.length := by
  have := fold_len ks []
  simpa [puts] using this
/-- Latches of one time alone: what is in the set is what was put. -/
theorem puts_iff {ks : List Kl} (h : ∀ k ∈ ks, k.2.2 = 3) (x : Kl) : x ∈ puts ks ↔ x ∈ ks := by
  refine ⟨puts_mem, fun hx => ?_⟩
  obtain ⟨y, hy, he⟩ := List.mem_map.1 (puts_key hx)
  have h1 := h y (puts_mem hy)
  have h2 := h x hx
  have : y = x := by
    simp only [keyC, Prod.mk.injEq] at he
    exact Prod.ext he.1 (Prod.ext he.2 (h1.trans h2.symm))
  exact this ▸ hy
def ltC (a b : Kl) : Prop := a.1 < b.1 ∨ (a.1 = b.1 ∧ a.2.1 < b.2.1)
theorem srd_lt {q : List Kl} (h : Srd q) (hk : Ks q) : q.Pairwise ltC := by
  have h2 : q.Pairwise fun a b => keyC a ≠ keyC b := List.pairwise_map.1 hk
  refine (h.and h2).imp fun {a b} ⟨h1, h2⟩ => ?_
  rw [cmpK_lt] at h1
  unfold ltC
  have h3 : ¬ (a.1 = b.1 ∧ a.2.1 = b.2.1) := fun e => h2 (Prod.ext e.1 e.2)
  omega
theorem uniqC : ∀ {a b : List Kl}, a.Pairwise ltC → b.Pairwise ltC → (∀ x, x ∈ a ↔ x ∈ b) → a = b
  | [], [], _, _, _ => rfl
  | [], y :: b, _, _, h => absurd ((h y).2 (List.mem_cons_self ..)) (by simp)
  | x :: a, [], _, _, h => absurd ((h x).1 (List.mem_cons_self ..)) (by simp)
  | x :: a, y :: b, ha, hb, h => by
    have irr : ∀ z : Kl, ¬ ltC z z := fun z hz => by unfold ltC at hz; omega
    have asm : ∀ {u v : Kl}, ltC u v → ltC v u → False := fun {u v} h1 h2 => by unfold ltC at *; omega
    obtain ⟨ha1, ha2⟩ := List.pairwise_cons.1 ha
    obtain ⟨hb1, hb2⟩ := List.pairwise_cons.1 hb
    have hxy : x = y := by
      rcases List.mem_cons.1 ((h x).1 (List.mem_cons_self ..)) with e | hx
      · exact e
      rcases List.mem_cons.1 ((h y).2 (List.mem_cons_self ..)) with e | hy
      · exact e.symm
      exact (asm (ha1 y hy) (hb1 x hx)).elim
    subst hxy
    refine congrArg (x :: ·) (uniqC ha2 hb2 fun z => ⟨fun hz => ?_, fun hz => ?_⟩)
    · rcases List.mem_cons.1 ((h z).1 (List.mem_cons_of_mem _ hz)) with rfl | h1
      · exact (irr _ (ha1 _ hz)).elim
      · exact h1
    · rcases List.mem_cons.1 ((h z).2 (List.mem_cons_of_mem _ hz)) with rfl | h1
      · exact (irr _ (hb1 _ hz)).elim
      · exact h1
theorem perm_ks {q l : List Kl} (h : q.Perm l) (hk : Ks l) : Ks q := (h.map keyC).nodup_iff.2 hk
theorem getL_has {l : List Kl} {c : Int × Int} (h : c ∈ l.map keyC) : (getL l c).isSome = true := by
  cases hg : getL l c with
  | some _ => rfl
  | none =>
    obtain ⟨x, hx, he⟩ := List.mem_map.1 h
    exact absurd he (aget_none hg x hx)
theorem getL_key {l : List Kl} {c : Int × Int} : (getL l c).isSome = true ↔ c ∈ l.map keyC := by
  refine ⟨fun h => ?_, getL_has⟩
  cases hg : getL l c with
  | none => rw [hg] at h; cases h
  | some x =>
    obtain ⟨h1, h2⟩ := aget_some hg
    exact h2 ▸ List.mem_map_of_mem h1
end Go.Proofs.Ytkenimmellonjaa
/- Seat r2: cmp.Compare, cmp.Or; calls held against each other. -/
namespace Go.Proofs.Ytkenimmellonjaa
open Go.Pv Go.RowKit Go.Shelf
set_option maxRecDepth 100000 in
theorem isNaN (x : Int) : Contract Try.prog G0 121 [.d (.int .i64 x)] [] (fun r t => r = .d (.bool false) ∧ t = []) := by
  refine run121 0 [] rfl rfl ?_
  conv => whnf
  exact ⟨rd_bool (by simp), rfl⟩
def cmpI (a b : Int) : Int := bif decide (a < b) then -1 else bif decide (a > b) then 1 else 0
set_option maxRecDepth 100000 in
theorem compareI (a b : Int) : Contract Try.prog G0 95 [.d (.int .i64 a), .d (.int .i64 b)] [] (fun r t => r = .d (.int .i64 (cmpI a b)) ∧ t = []) := by
  refine run95 0 [] rfl rfl ?_
  conv => whnf
  refine .scal [.d (.int .i64 a)] _ ⟨.refl _, rfl, isNaN a⟩ ?_
  conv => whnf
  refine .scal [.d (.int .i64 b)] _ ⟨.refl _, rfl, isNaN b⟩ ?_
  conv => whnf
  refine bcase_intro (fun h => ?_) (fun h => ?_) <;> conv => whnf
  · exact ⟨rd_int (by rw [cmpI, h]; rfl), rfl⟩
  refine bcase_intro (fun h2 => ?_) (fun h2 => ?_) <;> conv => whnf
  · exact ⟨rd_int (by rw [cmpI, h, h2]; rfl), rfl⟩
  · exact ⟨rd_int (by rw [cmpI, h, h2]; rfl), rfl⟩
def orI : List Int → Int
  | [] => 0
  | x :: r => bif x != 0 then x else orI r
set_option maxRecDepth 100000 in
theorem orC (l : List Int) (hl : l.length ≤ 1000) : Contract Try.prog G0 94 [.d (.list 1 (rowsI l))] [] (fun r t => r = .d (.int .i64 (orI l)) ∧ t = []) := by
  have hlen := rowsI_len l
  refine run94 0 [] rfl rfl ?_
  conv => whnf
  refine StopG.rounds wk94 [] [3, 6, 7, 8] (fun m env s => ∃ i : Nat, i ≤ l.length ∧ m = l.length - i ∧ orI l = orI (l.drop i) ∧
    env = [(3, .d (.int .i64 0)), (6, .d (.list 1 (rowsI l))), (7, .d (.int .i64 ((rowsI l).length : Int))), (8, .d (.int .i64 (i : Int)))] ∧ s = []) rfl ?_ ?_
  · conv => whnf
    exact ⟨_, 0, Nat.zero_le _, rfl, rfl, rfl, rfl⟩
  rintro m env s ⟨i, hi, rfl, ho, rfl, rfl⟩
  conv => whnf
  refine bcase_intro (fun h => ?_) (fun h => ?_) <;> conv => whnf
  · have h := lt_of h
    rw [hlen] at h
    obtain ⟨x, hx, hdrop⟩ := at_i h
    refine ⟨rowI x, ⟨by omega, row_i hx⟩, ?_⟩
    conv => whnf
    rw [hdrop, orI] at ho
    refine bcase_intro (fun h2 => ?_) (fun h2 => ?_) <;> conv => whnf
    · rw [h2] at ho
      exact ⟨rd_int ho.symm, rfl⟩
    · rw [h2] at ho
      rw [succ_i h (by omega)]
      exact ⟨_, by omega, i + 1, h, rfl, ho, rfl, rfl⟩
  · have h := ge_of h
    rw [hlen] at h
    rw [show l.drop i = [] from List.drop_of_length_le h] at ho
    exact ⟨rd_int ho.symm, rfl⟩
set_option maxRecDepth 100000 in
theorem cmp76 (a b a' b' : Int) : Contract Try.prog G0 76 [calV a b, calV a' b'] [] (fun r t => r = .d (.int .i64 (orI [cmpI a a', cmpI b b'])) ∧ t = []) := by
  refine run76 0 [] rfl rfl ?_
  conv => whnf
  refine .scal [.d (.int .i64 a), .d (.int .i64 a')] _ ⟨.refl _, rfl, compareI a a'⟩ ?_
  conv => whnf
  refine .scal [.d (.int .i64 b), .d (.int .i64 b')] _ ⟨.refl _, rfl, compareI b b'⟩ ?_
  conv => whnf
  refine .scal [.d (.list 1 (rowsI [cmpI a a', cmpI b b']))] _ ⟨.refl _, rfl, orC _ (by simp)⟩ ?_
  conv => whnf
  exact ⟨rfl, rfl⟩
set_option maxRecDepth 100000 in
theorem less28 (a b a' b' : Int) : Contract Try.prog G0 28 [calV a b, calV a' b'] [] (fun r t => r = .d (.bool (decide (orI [cmpI a a', cmpI b b'] < 0))) ∧ t = []) := by
  refine run28 0 [] rfl rfl ?_
  conv => whnf
  refine .scal [calV a b, calV a' b'] _ ⟨.refl _, rfl, cmp76 a b a' b'⟩ ?_
  conv => whnf
  exact ⟨rfl, rfl⟩
end Go.Proofs.Ytkenimmellonjaa
/- Seat r2: sets of calls: the first look. -/
namespace Go.Proofs.Ytkenimmellonjaa
open Go.Pv Go.RowKit
set_option maxRecDepth 100000 in
theorem first25 : Contract Try.prog G0 25 [] [] (fun r t => r = .d (.bool true) ∧ t = []) := by
  have p2 := put_some [(1, 1, 1)] (by decide) (by simp) (1, 1, 1)
  have e1 : getL [(1, 1, 1)] (keyC (1, 1, 1)) = some (1, 1, 1) := by decide
  have e2 : putL [(1, 1, 1)] (1, 1, 1) = [(1, 1, 1)] := by decide
  rw [e1, e2] at p2
  refine run25 0 [] rfl rfl ?_
  conv => whnf
  refine .obj rfl ?_
  conv => whnf
  refine ⟨_, _, ⟨WkL.refl _, put_none (1, 1, 1)⟩, fun res s1 h => ?_⟩
  obtain ⟨rfl, rfl⟩ := h
  conv => whnf
  refine .objg (fun _ => ?_) (fun h => absurd ?_ h)
  · conv => whnf
    refine ⟨_, _, ⟨WkL.refl _, p2⟩, fun res s1 h => ?_⟩
    obtain ⟨rfl, rfl⟩ := h
    conv => whnf
    refine .objg (fun _ => ?_) (fun h => absurd ?_ h)
    · conv => whnf
      refine ⟨_, _, ⟨WkL.refl _, len_some [(1, 1, 1)]⟩, fun res s1 h => ?_⟩
      obtain ⟨rfl, rfl⟩ := h
      conv => whnf
      exact ⟨rfl, rfl⟩
    · simp [HG, lit, rfind]
  · simp [HG, lit, rfind]
end Go.Proofs.Ytkenimmellonjaa
/- Seat r2: sets of calls played: the plain laws. -/
namespace Go.Proofs.Ytkenimmellonjaa
open Go.Pv
theorem ahdB_iff {a b : Kl} : ahdB a b = true ↔ ltC a b := by
  unfold ahdB ltC
  by_cases h1 : a.1 < b.1
  · simp [h1]
  · by_cases h2 : a.1 = b.1 <;> simp [h1, h2]
theorem samC_iff {a b : Kl} : samC a b = true ↔ keyC a = keyC b := by
  unfold samC keyC
  by_cases h1 : a.1 = b.1 <;> simp [h1]
theorem ltC_trans {a b c : Kl} (h1 : ltC a b) (h2 : ltC b c) : ltC a c := by unfold ltC at *; omega
theorem ltC_key {a b : Kl} (h : ltC a b) : keyC a ≠ keyC b := fun e => by
  simp only [keyC, Prod.mk.injEq] at e
  unfold ltC at h
  omega
theorem plI_len : ∀ (l : List Kl) (x : Kl), (plI l x).length = l.length + (if anewR l x then 1 else 0)
  | [], _ => rfl
  | y :: r, x => by
    unfold plI anewR
    cases ahdB y x
    · cases samC y x <;> rfl
    · simp only [cond_true, List.length_cons, plI_len r x]
      omega
theorem plI_mem : ∀ {l : List Kl} {x z : Kl}, l.Pairwise ltC → (z ∈ plI l x ↔ z = x ∨ (z ∈ l ∧ keyC z ≠ keyC x))
  | [], x, z, _ => by simp [plI]
  | y :: r, x, z, h => by
    obtain ⟨h1, h2⟩ := List.pairwise_cons.1 h
    have ih := plI_mem (x := x) (z := z) h2
    unfold plI
    cases hl : ahdB y x with
    | true =>
      have hy := ltC_key (ahdB_iff.1 hl)
      simp only [cond_true, List.mem_cons, ih]
      constructor
      · rintro (rfl | h | ⟨h, hk⟩)
        · exact .inr ⟨.inl rfl, hy⟩
        · exact .inl h
        · exact .inr ⟨.inr h, hk⟩
      · rintro (h | ⟨rfl | h, hk⟩)
        · exact .inr (.inl h)
        · exact .inl rfl
        · exact .inr (.inr ⟨h, hk⟩)
    | false =>
      have hnl : ¬ ltC y x := fun h => by rw [ahdB_iff.2 h] at hl; cases hl
      cases hs : samC y x with
      | true =>
        have hk := samC_iff.1 hs
        simp only [cond_false, cond_true, List.mem_cons]
        constructor
        · rintro (h | h)
          · exact .inl h
          · exact .inr ⟨.inr h, fun e => ltC_key (h1 z h) (hk.trans e.symm)⟩
        · rintro (h | ⟨rfl | h, h3⟩)
          · exact .inl h
          · exact absurd hk h3
          · exact .inr h
      | false =>
        have hk : keyC y ≠ keyC x := fun e => by rw [samC_iff.2 e] at hs; cases hs
        have hlt : ltC x y := by
          unfold ltC at *
          have : ¬ (y.1 = x.1 ∧ y.2.1 = x.2.1) := fun e => hk (Prod.ext e.1 e.2)
          omega
        simp only [cond_false, List.mem_cons]
        constructor
        · rintro (h | rfl | h)
          · exact .inl h
          · exact .inr ⟨.inl rfl, hk⟩
          · exact .inr ⟨.inr h, fun e => ltC_key (ltC_trans hlt (h1 z h)) e.symm⟩
        · rintro (h | ⟨h, _⟩)
          · exact .inl h
          · exact .inr h
theorem plI_srt : ∀ {l : List Kl} {x : Kl}, l.Pairwise ltC → (plI l x).Pairwise ltC
  | [], x, _ => by simp [plI]
  | y :: r, x, h => by
    obtain ⟨h1, h2⟩ := List.pairwise_cons.1 h
    have ih := plI_srt (x := x) h2
    unfold plI
    cases hl : ahdB y x with
    | true =>
      refine List.pairwise_cons.2 ⟨fun z hz => ?_, ih⟩
      rcases (plI_mem h2).1 hz with rfl | ⟨hz, _⟩
      · exact ahdB_iff.1 hl
      · exact h1 z hz
    | false =>
      have hnl : ¬ ltC y x := fun h => by rw [ahdB_iff.2 h] at hl; cases hl
      cases hs : samC y x with
      | true =>
        have hk := samC_iff.1 hs
        refine List.pairwise_cons.2 ⟨fun z hz => ?_, h2⟩
        have h3 := h1 z hz
        simp only [keyC, Prod.mk.injEq] at hk
        unfold ltC at *
        omega
      | false =>
        have hk : keyC y ≠ keyC x := fun e => by rw [samC_iff.2 e] at hs; cases hs
        have hlt : ltC x y := by
          unfold ltC at *
          have : ¬ (y.1 = x.1 ∧ y.2.1 = x.2.1) := fun e => hk (Prod.ext e.1 e.2)
          omega
        refine List.pairwise_cons.2 ⟨fun z hz => ?_, h⟩
        rcases List.mem_cons.1 hz with rfl | hz
        · exact hlt
        · exact ltC_trans hlt (h1 z hz)
theorem anewR_iff : ∀ {l : List Kl} {x : Kl}, l.Pairwise ltC → (anewR l x = true ↔ ∀ z ∈ l, keyC z ≠ keyC x)
  | [], x, _ => by simp [anewR]
  | y :: r, x, h => by
    obtain ⟨h1, h2⟩ := List.pairwise_cons.1 h
    have ih := anewR_iff (x := x) h2
    unfold anewR
    cases hl : ahdB y x with
    | true =>
      have hy := ltC_key (ahdB_iff.1 hl)
      simp only [cond_true, List.mem_cons, ih]
      exact ⟨fun h z hz => hz.elim (fun e => e ▸ hy) (h z), fun h z hz => h z (.inr hz)⟩
    | false =>
      have hnl : ¬ ltC y x := fun h => by rw [ahdB_iff.2 h] at hl; cases hl
      cases hs : samC y x with
      | true =>
        have hk := samC_iff.1 hs
        simp only [cond_false, Bool.not_true, Bool.false_eq_true, false_iff]
        exact fun h => h y (List.mem_cons_self ..) hk
      | false =>
        have hk : keyC y ≠ keyC x := fun e => by rw [samC_iff.2 e] at hs; cases hs
        have hlt : ltC x y := by
          unfold ltC at *
          have : ¬ (y.1 = x.1 ∧ y.2.1 = x.2.1) := fun e => hk (Prod.ext e.1 e.2)
          omega
        simp only [cond_false, Bool.not_false, true_iff]
        intro z hz
        rcases List.mem_cons.1 hz with rfl | hz
        · exact hk
        · exact fun e => ltC_key (ltC_trans hlt (h1 z hz)) e.symm
theorem putL_iff : ∀ {l : List Kl} {k z : Kl}, Ks l → (z ∈ putL l k ↔ z = k ∨ (z ∈ l ∧ keyC z ≠ keyC k))
  | [], k, z, _ => by simp [putL, aput]
  | y :: r, k, z, h => by
    obtain ⟨h1, h2⟩ := List.nodup_cons.1 (show (keyC y :: r.map keyC).Nodup from h)
    have ih := putL_iff (k := k) (z := z) h2
    have hne : ∀ u ∈ r, keyC u ≠ keyC y := fun u hu e => h1 (e ▸ List.mem_map_of_mem hu)
    show z ∈ aput keyC (y :: r) k ↔ _
    unfold aput
    by_cases hk : keyC y = keyC k
    · rw [if_pos hk]
      simp only [List.mem_cons]
      constructor
      · rintro (h | h)
        · exact .inl h
        · exact .inr ⟨.inr h, hk ▸ hne z h⟩
      · rintro (h | ⟨rfl | h, h3⟩)
        · exact .inl h
        · exact absurd hk h3
        · exact .inr h
    · rw [if_neg hk]
      simp only [List.mem_cons]
      rw [show (z ∈ aput keyC r k ↔ _) from ih]
      constructor
      · rintro (rfl | h | ⟨h, h3⟩)
        · exact .inr ⟨.inl rfl, hk⟩
        · exact .inl h
        · exact .inr ⟨.inr h, h3⟩
      · rintro (h | ⟨rfl | h, h3⟩)
        · exact .inr (.inl h)
        · exact .inl rfl
        · exact .inr (.inr ⟨h, h3⟩)
theorem delL_iff : ∀ {l : List Kl} {c : Int × Int} {z : Kl}, Ks l → (z ∈ delL l c ↔ z ∈ l ∧ keyC z ≠ c)
  | [], c, z, _ => by simp [delL, adel]
  | y :: r, c, z, h => by
    obtain ⟨h1, h2⟩ := List.nodup_cons.1 (show (keyC y :: r.map keyC).Nodup from h)
    have ih := delL_iff (c := c) (z := z) h2
    have hne : ∀ u ∈ r, keyC u ≠ keyC y := fun u hu e => h1 (e ▸ List.mem_map_of_mem hu)
    show z ∈ adel keyC (y :: r) c ↔ _
    unfold adel
    by_cases hk : keyC y = c
    · rw [if_pos hk]
      simp only [List.mem_cons]
      constructor
      · intro h
        exact ⟨.inr h, hk ▸ hne z h⟩
      · rintro ⟨rfl | h, h3⟩
        · exact absurd hk h3
        · exact h
    · rw [if_neg hk]
      simp only [List.mem_cons]
      rw [show (z ∈ adel keyC r c ↔ _) from ih]
      constructor
      · rintro (rfl | ⟨h, h3⟩)
        · exact ⟨.inl rfl, hk⟩
        · exact ⟨.inr h, h3⟩
      · rintro ⟨rfl | h, h3⟩
        · exact .inl rfl
        · exact .inr ⟨h, h3⟩
/-- The set, and the chapter's list. -/
def Inv (L H : List Kl) : Prop := Ks L ∧ H.Pairwise ltC ∧ ∀ x, x ∈ H ↔ x ∈ L
theorem srt_ks {H : List Kl} (h : H.Pairwise ltC) : Ks H := List.pairwise_map.2 (h.imp fun h => ltC_key h)
theorem ks_nd {H : List Kl} (h : Ks H) : H.Nodup := (List.pairwise_map.1 h).imp fun h e => h (congrArg keyC e)
theorem Inv.perm {L H : List Kl} (h : Inv L H) : H.Perm L := (List.perm_ext_iff_of_nodup (ks_nd (srt_ks h.2.1)) (ks_nd h.1)).2 h.2.2
theorem Inv.len {L H : List Kl} (h : Inv L H) : H.length = L.length := h.perm.length_eq
theorem Inv.nil : Inv [] [] := ⟨.nil, .nil, fun _ => Iff.rfl⟩
theorem Inv.put {L H : List Kl} (h : Inv L H) (x : Kl) : Inv (putL L x) (plI H x) :=
  ⟨aput_nodup h.1 x, plI_srt h.2.1, fun z => by rw [plI_mem h.2.1, putL_iff h.1, h.2.2]⟩
theorem Inv.anew {L H : List Kl} (h : Inv L H) (x : Kl) : anewR H x = !(getL L (keyC x)).isSome := by
  have h1 := anewR_iff (x := x) h.2.1
  have h2 := getL_key (l := L) (c := keyC x)
  cases hg : (getL L (keyC x)).isSome with
  | true =>
    obtain ⟨y, hy, he⟩ := List.mem_map.1 (h2.1 hg)
    cases ha : anewR H x with
    | false => rfl
    | true => exact absurd he (h1.1 ha y ((h.2.2 y).2 hy))
  | false =>
    refine h1.2 fun z hz e => ?_
    have := h2.2 (e ▸ List.mem_map_of_mem ((h.2.2 z).1 hz))
    rw [this] at hg; cases hg
theorem delI_mem {H : List Kl} {c : Int × Int} {z : Kl} : z ∈ delI H c ↔ z ∈ H ∧ keyC z ≠ c := by
  unfold delI
  rw [List.mem_filter]
  refine and_congr_right fun _ => ?_
  obtain ⟨c1, c2⟩ := c
  unfold keyC
  by_cases h1 : z.1 = c1 <;> simp [h1]
theorem Inv.del {L H : List Kl} (h : Inv L H) (c : Int × Int) : Inv (delL L c) (delI H c) :=
  ⟨adel_nodup h.1 c, h.2.1.sublist List.filter_sublist, fun z => by rw [delI_mem, delL_iff h.1, h.2.2]⟩
theorem Inv.was {L H : List Kl} (h : Inv L H) (c : Int × Int) : (getL L c).isSome = decide ((delI H c).length < H.length) := by
  have h2 := getL_key (l := L) (c := c)
  rw [Bool.eq_iff_iff, h2, decide_eq_true_iff]
  constructor
  · intro hc
    obtain ⟨y, hy, he⟩ := List.mem_map.1 hc
    have hy := (h.2.2 y).2 hy
    have hle : (delI H c).length ≤ H.length := List.length_filter_le ..
    rcases Nat.lt_or_ge (delI H c).length H.length with h | h
    · exact h
    · have := (List.filter_sublist (l := H) (p := fun z : Kl => !(bif z.1 == c.1 then z.2.1 == c.2 else false))).eq_of_length (Nat.le_antisymm hle h)
      have hy2 : y ∈ delI H c := by unfold delI; rw [this]; exact hy
      exact absurd he (delI_mem.1 hy2).2
  · intro hlt
    rcases Classical.em (c ∈ L.map keyC) with h1 | h1
    · exact h1
    · exfalso
      have : delI H c = H := List.filter_eq_self.2 fun z hz => by
        have h3 : keyC z ≠ c := fun e => h1 (e ▸ List.mem_map_of_mem ((h.2.2 z).1 hz))
        obtain ⟨c1, c2⟩ := c
        unfold keyC at h3
        by_cases h4 : z.1 = c1
        · have : z.2.1 ≠ c2 := fun e => h3 (Prod.ext h4 e)
          simp [h4, this]
        · simp [h4]
      rw [this] at hlt
      omega
theorem Inv.keep {L H : List Kl} (h : Inv L H) (ks : List Kl) : Inv (L.filter (hasK ks)) (H.filter (hasK ks)) :=
  ⟨h.1.sublist (List.filter_sublist.map _), h.2.1.sublist List.filter_sublist, fun z => by rw [List.mem_filter, List.mem_filter, h.2.2]⟩
theorem Inv.gone {L H : List Kl} (h : Inv L H) (ks : List Kl) : ((L.filter fun k => !hasK ks k).length : Int) = (H.length : Int) - ((H.filter (hasK ks)).length : Int) := by
  have : ∀ (r : List Kl), (r.filter fun k => !hasK ks k).length + (r.filter (hasK ks)).length = r.length := by
    intro r
    induction r with
    | nil => rfl
    | cons x r ih =>
      rw [List.filter_cons, List.filter_cons]
      cases hasK ks x
      · simp only [Bool.not_false, if_true, Bool.false_eq_true, if_false, List.length_cons]; omega
      · simp only [Bool.not_true, if_true, Bool.false_eq_true, if_false, List.length_cons]; omega
  have h1 := this L
  have h2 := (h.perm.filter (hasK ks)).length_eq
  have h3 := h.len
  omega
theorem Inv.all {L H q : List Kl} (h : Inv L H) (hp : q.Perm L) (hs : Srd q) : q = H :=
  uniqC (srd_lt hs (perm_ks hp h.1)) h.2.1 fun x => by rw [hp.mem_iff, h.2.2]
theorem sameK_refl (x : Kl) : sameK x x = true := by simp [sameK]
theorem fold_got (a : Int × Int) (g : Kl) : ∀ (H : List Kl) (b : Bool), (∀ y ∈ H, keyC y = a → y = g) → H.foldl (fun b y => bif (bif y.1 == a.1 then y.2.1 == a.2 else false) then sameK y g else b) b = (b || H.any fun y => decide (keyC y = a))
  | [], b, _ => by simp
  | y :: r, b, h => by
    rw [List.foldl_cons, fold_got a g r _ fun z hz => h z (List.mem_cons_of_mem _ hz), List.any_cons]
    obtain ⟨a1, a2⟩ := a
    by_cases he : keyC y = (a1, a2)
    · have hg := h y (List.mem_cons_self ..) he
      have he2 := he
      simp only [keyC, Prod.mk.injEq] at he2
      rw [decide_eq_true he, hg, sameK_refl, ← hg]
      simp [he2.1, he2.2]
    · have h3 : (bif y.1 == a1 then y.2.1 == a2 else false) = false := by
        by_cases h4 : y.1 = a1
        · have : y.2.1 ≠ a2 := fun e => he (Prod.ext h4 e)
          simp [h4, this]
        · simp [h4]
      rw [decide_eq_false he]
      show ((bif (bif y.1 == a1 then y.2.1 == a2 else false) then _ else b) || _) = _
      rw [h3]
      simp
theorem Inv.got {L H : List Kl} (h : Inv L H) (a : Int × Int) : gotB a ((getL L a).getD (0, 0, 0)) H = (getL L a).isSome := by
  have hu : ∀ y ∈ H, keyC y = a → y = (getL L a).getD (0, 0, 0) := fun y hy he => by
    cases hg : getL L a with
    | none => exact absurd he (aget_none hg y ((h.2.2 y).1 hy))
    | some x =>
      obtain ⟨h1, h2⟩ := aget_some hg
      have hk := List.pairwise_map.1 h.1
      have hx := (h.2.2 x).2 h1
      have := srt_ks h.2.1
      exact inj_of_nodup this hy hx (he.trans h2.symm)
  unfold gotB
  rw [fold_got a _ H false hu, Bool.false_or, Bool.eq_iff_iff, getL_key, List.any_eq_true]
  constructor
  · rintro ⟨y, hy, he⟩
    exact List.mem_map.2 ⟨y, (h.2.2 y).1 hy, of_decide_eq_true he⟩
  · intro hc
    obtain ⟨y, hy, he⟩ := List.mem_map.1 hc
    exact ⟨y, (h.2.2 y).2 hy, decide_eq_true he⟩
  where
  inj_of_nodup {H : List Kl} {x y : Kl} (h : (H.map keyC).Nodup) (hx : x ∈ H) (hy : y ∈ H) (he : keyC x = keyC y) : x = y := by
    induction H with
    | nil => cases hx
    | cons z r ih =>
      obtain ⟨h1, h2⟩ := List.nodup_cons.1 (show (keyC z :: r.map keyC).Nodup from h)
      rcases List.mem_cons.1 hx with ex | hx1
      · rcases List.mem_cons.1 hy with ey | hy1
        · exact ex.trans ey.symm
        · exact absurd (by rw [← ex, he]; exact List.mem_map_of_mem hy1) h1
      · rcases List.mem_cons.1 hy with ey | hy1
        · exact absurd (by rw [← ey, ← he]; exact List.mem_map_of_mem hx1) h1
        · exact ih h2 hx1 hy1
theorem less_same (a b : Kl) : decide (orI [cmpI a.1 b.1, cmpI a.2.1 b.2.1] < 0) = ahdB a b := by
  unfold ahdB orI orI orI cmpI
  by_cases h1 : a.1 < b.1
  · simp [h1]
  · by_cases h2 : a.1 > b.1
    · have : a.1 ≠ b.1 := by omega
      simp [h1, h2, this]
    · have h3 : a.1 = b.1 := by omega
      by_cases h4 : a.2.1 < b.2.1
      · simp [h3, h4]
      · by_cases h5 : a.2.1 > b.2.1
        · simp [h3, h4, h5]
        · simp [h3, h4, h5]
end Go.Proofs.Ytkenimmellonjaa
/- Seat r2: sets of calls: copies; Del of a set that nothing was put into. -/
namespace Go.Proofs.Ytkenimmellonjaa
open Go.Pv Go.RowKit
set_option maxRecDepth 100000 in
theorem clone_none : Contract Try.prog G0 51 [.ref (.g 0) 0] set0S (fun r t => r = .ref (.g 1) 0 ∧ t = set0S ++ [(1, nilC)]) := by
  refine run51 1 [] rfl rfl ?_
  conv => whnf
  refine .data [.d (.raw (.map .none))] _ ⟨WkL.refl _, rfl, clone84N⟩ ?_
  conv => whnf
  exact ⟨rfl, rfl⟩
set_option maxRecDepth 100000 in
theorem clone_some (l : List Kl) : Contract Try.prog G0 51 [.ref (.g 0) 0] (setS l) (fun r t => r = .ref (.g 2) 0 ∧ t = setS l ++ [(2, .cells [.mp (.g 3)]), (3, .dmap (encL l))]) := by
  refine run51 2 [] rfl rfl ?_
  conv => whnf
  refine .obj rfl ?_
  conv => whnf
  refine ⟨_, _, ⟨WkL.refl _, clone84 l⟩, fun res s1 h => ?_⟩
  obtain ⟨rfl, rfl⟩ := h
  conv => whnf
  exact ⟨rfl, rfl⟩
set_option maxRecDepth 100000 in
theorem del_none (c : Int × Int) : Contract Try.prog G0 54 [.ref (.g 0) 0, calC c] set0S (fun r t => r = .d (.bool false) ∧ t = set0S) := by
  refine run54 1 [] rfl rfl ?_
  conv => whnf
  refine .obj rfl ?_
  conv => whnf
  refine ⟨_, _, ⟨WkL.refl _, has_none c⟩, fun res s1 h => ?_⟩
  obtain ⟨rfl, rfl⟩ := h
  conv => whnf
  refine ⟨dxC_good c, ?_⟩
  conv => whnf
  exact ⟨rfl, rfl⟩
end Go.Proofs.Ytkenimmellonjaa
/- Seat r2: Keep as a Contract. -/
namespace Go.Proofs.Ytkenimmellonjaa
open Go.RowKit Go.Shelf
open Go.Pv
theorem ents_zip {ents : Array MapEntry} {l : List Kl} (hv : ents.toList.map (·.val) = l.map encK) (hk : ents.toList.map (·.key) = l.map fun k => Value.agg #[.int .i64 k.1, .int .i64 k.2.1]) :
    ∃ zs : List (Kl × Nat), zs.map (·.1) = l ∧ zs.map (·.2) = ents.toList.map (·.born) ∧ ents = (zs.map mkE).toArray := by
  have key : ∀ (es : List MapEntry) (l : List Kl), es.map (·.val) = l.map encK → es.map (·.key) = l.map (fun k => Value.agg #[.int .i64 k.1, .int .i64 k.2.1]) → ∃ zs : List (Kl × Nat), zs.map (·.1) = l ∧ zs.map (·.2) = es.map (·.born) ∧ es = zs.map mkE := by
    intro es
    induction es with
    | nil =>
      intro l h1 _
      have : l = [] := List.eq_nil_of_length_eq_zero (by simpa using (congrArg List.length h1).symm)
      subst this
      exact ⟨[], rfl, rfl, rfl⟩
    | cons e r ih =>
      intro l h1 h2
      cases l with
      | nil => simp at h1
      | cons k q =>
        simp only [List.map_cons, List.cons.injEq] at h1 h2
        obtain ⟨zs, q1, q2, q3⟩ := ih q h1.2 h2.2
        refine ⟨(k, e.born) :: zs, by simp [q1], by simp [q2], ?_⟩
        rw [List.map_cons, ← q3]
        congr 1
        cases e
        simp only at h1 h2
        simp only [mkE, h1.1, h2.1]
  obtain ⟨zs, h1, h2, h3⟩ := key ents.toList l hv hk
  exact ⟨zs, h1, h2, by rw [← h3]⟩
/-- The second of two blocks has turned. -/
theorem St.two {g : Nat → Option Nat} {F U : Nat → Prop} {a0 a1 a1' : AB} {w w' : World} {b : Nat} (hS : St ⟨fun _ => none, g⟩ F U [] [(0, a0), (1, a1)] w) (h0 : a0 ≠ .dead) (h1 : a1 ≠ .dead) (hb : g 1 = some b) (hg : w.grownBy w' (some b)) (hX : Ext U w w') (hab : RB ⟨fun _ => none, g⟩ F w' b a1') :
    St ⟨fun _ => none, g⟩ F U [] [(0, a0), (1, a1')] w' := by
  have hc : ∀ i ab, (i, ab) ∈ [(0, a0), (1, a1')] → (i = 0 ∧ ab = a0) ∨ (i = 1 ∧ ab = a1') := by
    intro i ab h
    simp at h
    exact h
  refine ⟨fun r ab x hr hm => ?_, fun r r' u v x q1 q2 d1 d2 m1 m2 => ?_, fun r u x q1 d1 m1 hu => ?_, by simp, hS.FU, fun x hx => Nat.lt_of_lt_of_le (hS.Ult x hx) hg.size, fun _ _ => rfl, fun i ab h => ?_, fun i h => ?_⟩
  · cases r with
    | l k => cases hm
    | g i =>
      rcases hc i ab hr with ⟨rfl, rfl⟩ | ⟨rfl, rfl⟩
      · have hrb := hS.rb (.g 0) ab x (by simp [Here]) hm
        have hne : x ≠ b := fun e => by
          subst e
          have := hS.inj (.g 0) (.g 1) ab a1 x (by simp [Here]) (by simp [Here]) h0 h1 hm hb
          cases this
        exact hrb.mono (.refl _) (fun _ h => h) hS.FU hX (fun hd => hg.block x (RB.lt hrb hd) (fun e => hne (by cases e; rfl)))
      · have : x = b := by
          have hm : g 1 = some x := hm
          rw [hb] at hm
          exact (Option.some.inj hm).symm
        subst this
        exact hab
  · cases r with
    | l k => cases m1
    | g i =>
      cases r' with
      | l k => cases m2
      | g j =>
        rcases hc i u q1 with ⟨rfl, rfl⟩ | ⟨rfl, rfl⟩ <;> rcases hc j v q2 with ⟨rfl, rfl⟩ | ⟨rfl, rfl⟩
        · rfl
        · exact hS.inj (.g 0) (.g 1) _ a1 x (by simp [Here]) (by simp [Here]) h0 h1 m1 m2
        · exact hS.inj (.g 1) (.g 0) a1 _ x (by simp [Here]) (by simp [Here]) h1 h0 m1 m2
        · rfl
  · cases r with
    | l k => cases m1
    | g i =>
      rcases hc i u q1 with ⟨rfl, rfl⟩ | ⟨rfl, rfl⟩
      · exact hS.nU (.g 0) _ x (by simp [Here]) h0 m1 hu
      · exact hS.nU (.g 1) a1 x (by simp [Here]) h1 m1 hu
  · rcases hc i ab h with ⟨rfl, _⟩ | ⟨rfl, _⟩
    · exact hS.tot 0 a0 (by simp)
    · exact hS.tot 1 a1 (by simp)
  · refine hS.gdom i fun ab h2 => ?_
    simp at h2
    rcases h2 with ⟨rfl, _⟩ | ⟨rfl, _⟩
    · exact h a0 (by simp)
    · exact h a1' (by simp)
/-- A call that is told of nothing: what lay lies as it lay. -/
theorem Contract.alone {P : Program} {f : Nat} {args : List AV} {R : AV → List (Nat × AB) → Prop} (h : Contract P G0 f args [] R) {F : Nat → Prop} {W : World} {vals : List Value} (hF : ∀ b, F b → b < W.heap.size) (hl : vals.length = args.length)
    (hv : ∀ (j : Nat) (x : AV) (v : Value), args[j]? = some x → vals[j]? = some v → RV ⟨fun _ => none, fun _ => none⟩ F W x v) :
    Calls P f vals.toArray W fun e w' => ∃ v res s' g' F', e = .returned v ∧ R res s' ∧ RV ⟨fun _ => none, g'⟩ F' w' res v ∧ Below W.heap.size W w' := by
  have hS : St ⟨fun _ => none, fun _ => none⟩ F (fun b => b < W.heap.size) [] [] W :=
    ⟨fun r ab b hr hm => (by cases r <;> cases hm), fun r r' a b x hr _ _ _ hm => (by cases r <;> cases hm), fun r ab b hr _ hm => (by cases r <;> cases hm), by simp, hF, fun _ h => h, fun _ _ => rfl, fun _ _ h => (by cases h), fun _ _ => rfl⟩
  refine (h.2 (fun _ => none) F (fun b => b < W.heap.size) W vals hS (fun g cs h => by cases h) hl hv).mono ?_
  rintro e w' ⟨v, res, s', g', F', U', he, hr, _, _, _, _, _, hX, _, hrv⟩
  exact ⟨v, res, s', g', F', he, hr, hrv, ⟨hX.os, hX.tape, hX.output, hX.size, fun k hk => hX.block k hk⟩⟩
set_option maxHeartbeats 1000000 in
theorem keep44 (l : List Kl) (hn : Ks l) (hl : l.length ≤ 100000) (ks : List Kl) (hk : ks.length ≤ 100000) : Contract Try.prog G0 44 [.ref (.g 0) 0, .d (.list 3 (rowsK ks))] (setS l) (fun r t => r = .d (.int .i64 ((l.filter fun k => !ks.any (eqK k)).length : Int)) ∧ t = setS (l.filter fun k => ks.any (eqK k))) := by
  refine ⟨enters_of Try.func44 (by kernel_rfl) rfl, fun g F U w vals hS hG hlv hv => ?_⟩
  obtain ⟨v, v1, rfl⟩ : ∃ v v1, vals = [v, v1] := by
    match vals, hlv with
    | [v, v1], _ => exact ⟨v, v1, rfl⟩
  have hrv := hv 0 _ v rfl rfl
  have hrv1 := hv 1 _ v1 rfl rfl
  obtain ⟨c, hgc, rfl⟩ : ∃ c, g 0 = some c ∧ v = .pointer (some ⟨c, 0, none⟩) := by
    cases hrv with
    | ref _ _ b hb => exact ⟨b, hb, rfl⟩
  obtain ⟨arr, tt, hc, hsz, hc1⟩ := hS.rb (.g 0) (.cells [.mp (.g 1)]) c (by simp [Here, setS]) hgc
  have hsz : arr.size = 1 := hsz
  obtain ⟨u, hu⟩ : ∃ u, arr[0]? = some u := ⟨_, Array.getElem?_eq_getElem (by omega)⟩
  have hru := (hc1 0 _ u rfl hu).2
  obtain ⟨b, hgb, rfl⟩ : ∃ b, g 1 = some b ∧ u = .map (some b) := by
    cases hru with
    | mp _ b h => exact ⟨b, h, rfl⟩
  obtain rfl : arr = #[.map (some b)] := by
    apply Array.ext'
    match h : arr.toList, (show arr.toList.length = 1 by simpa using hsz) with
    | [x], _ =>
      have : arr.toList[0]? = some (.map (some b)) := by rw [Array.getElem?_toList]; exact hu
      rw [h] at this
      simpa using this
  obtain ⟨ents, clock, hb, h2, h3, h4, h5⟩ := hS.rb (.g 1) (.dmap (encL l)) b (by simp [Here, setS]) hgb
  obtain ⟨zs, z1, z2, rfl⟩ := ents_zip (vals_of h2 h3) (keys_of h2 h3)
  have hkz : (zs.map fun z => keyC z.1).Nodup := by
    have : zs.map (fun z => keyC z.1) = l.map keyC := by rw [← z1, List.map_map]; rfl
    rw [this]; exact hn
  have hsz2 : (zs.map (·.2)).Nodup := by rw [z2]; exact borns_of h5
  have hoz : ∀ z ∈ zs, z.2 < clock := fun z hz => by
    obtain ⟨i, hi⟩ := List.mem_iff_getElem?.1 hz
    exact h4 i (mkE z) (by rw [List.getElem?_toArray, List.getElem?_map, hi]; rfl)
  have hzl : zs.length ≤ 100000 := by rw [← z1, List.length_map] at hl; exact hl
  have hnU : ¬ U b := hS.nU (.g 1) (.dmap (encL l)) b (by simp [Here, setS]) (by simp) hgb
  have hFb : ∀ x, F x → x < w.heap.size ∧ x ≠ b := fun x hx => ⟨hS.Ult x (hS.FU x hx), fun e => hnU (e ▸ hS.FU x hx)⟩
  have hcont : ∀ W, w.grownBy W (some b) → ∀ k : Kl, Calls Try.prog 78 #[v1, encK k] W fun e w' => e = .returned (.bool (ks.any (eqK k))) ∧ Below W.heap.size W w' := by
    intro W hg k
    have hcon := (containsK ks (by omega) k)
    refine (Contract.alone (vals := [v1, encK k]) hcon (F := F) (fun x hx => Nat.lt_of_lt_of_le (hFb x hx).1 hg.size) rfl ?_).mono ?_
    · intro j x v hx hv
      match j, hx, hv with
      | 0, hx, hv =>
        cases hx
        cases hv
        cases hrv1 with
        | d h => exact .d (h.mono (fun _ h => h) fun x hx => hg.block x (hFb x hx).1 (fun e => (hFb x hx).2 (by cases e; rfl)))
      | 1, hx, hv =>
        cases hx
        cases hv
        refine .agg _ [.int .i64 k.1, .int .i64 k.2.1, .int .i64 k.2.2] rfl ?_ ?_
        · intro j v hv
          match j with
          | 0 => simp at hv; subst hv; rfl
          | 1 => simp at hv; subst hv; rfl
          | 2 => simp at hv; subst hv; rfl
          | j + 3 => simp at hv
        · intro j x v hx hv
          match j with
          | 0 => simp at hx hv; subst hx; subst hv; exact .d (.int _ _)
          | 1 => simp at hx hv; subst hx; subst hv; exact .d (.int _ _)
          | 2 => simp at hx hv; subst hx; subst hv; exact .d (.int _ _)
          | j + 3 => simp at hx
      | j + 2, hx, hv => simp at hx
    · rintro e w' ⟨v, res, s', g', F', rfl, ⟨rfl, rfl⟩, hrv, hB⟩
      refine ⟨?_, hB⟩
      cases hrv with
      | d h => cases h; rfl
  have hkw := keepW 5 (by decide) c b tt zs clock w v1 (fun k => ks.any (eqK k)) hc hb hkz hsz2 hoz hzl hcont
  refine (callsIn_wide.1 hkw).mono ?_
  rintro e w' ⟨rfl, hb', hg⟩
  have hfl : ∀ q : Kl → Bool, (zs.filter fun z => q z.1).map (·.1) = l.filter q := fun q => by
    rw [← z1, List.filter_map]
    rfl
  have hX : Ext U w w' := by
    refine ⟨hg.os, hg.tape, hg.output, hg.size, fun x hx => hg.block x (hS.Ult x hx) (fun e => hnU (by cases e; exact hx)), fun x hx => ?_⟩
    by_cases hxb : x = b
    · subst hxb
      simp [World.shape?, hb, hb']
    · unfold World.shape?
      rw [hg.block x hx (fun e => hxb (by cases e; rfl))]
  refine ⟨_, .d (.int .i64 ((l.filter fun k => !ks.any (eqK k)).length : Int)), _, g, F, U, rfl, ⟨rfl, rfl⟩, fun _ _ h => h, fun id ab h => .inl ?_, fun _ h => h, fun _ h => h, fun _ h => .inl h, hX, ?_, ?_⟩
  · simp [setS] at h ⊢
    rcases h with ⟨rfl, _⟩ | ⟨rfl, _⟩
    · exact ⟨_, .inl ⟨rfl, rfl⟩⟩
    · exact ⟨_, .inr ⟨rfl, rfl⟩⟩
  · refine St.two (a1 := .dmap (encL l)) hS (by simp) (by simp) hgb hg hX ?_
    rw [← hfl fun k => ks.any (eqK k)]
    generalize hzf : (zs.filter fun z => ks.any (eqK z.1)) = zf at hb'
    have hsf : (zf.map (·.2)).Nodup := by rw [← hzf]; exact hsz2.sublist (List.filter_sublist.map _)
    have hof : ∀ z ∈ zf, z.2 < clock := fun z hz => hoz z (List.mem_filter.1 (hzf ▸ hz)).1
    have at_ : ∀ (i : Nat) (e : MapEntry), (zf.map mkE).toArray[i]? = some e → ∃ z, zf[i]? = some z ∧ e = mkE z := fun i e he => by
      rw [List.getElem?_toArray, List.getElem?_map] at he
      cases hz : zf[i]? with
      | none => rw [hz] at he; cases he
      | some z => rw [hz] at he; cases he; exact ⟨z, rfl, rfl⟩
    refine ⟨(zf.map mkE).toArray, clock, hb', by simp [encL, encM], fun i e x he hx => ?_, fun i e he => ?_, fun i j e e' he he' hbn => ?_⟩
    · obtain ⟨z, hz, rfl⟩ := at_ i e he
      have hx : (dxC (keyC z.1), dxK z.1) = x := by simpa [encL, encM, hz] using hx
      subst hx
      have ints : ∀ (xs : List Int), RV (Mp.sub ⟨fun _ => none, g⟩ (.g 1)) F w' (.agg (xs.map fun x => .d (.int .i64 x))) (.agg (xs.map (Value.int .i64)).toArray) := fun xs => by
        refine .agg _ _ (by simp) ?_ ?_
        · intro j v hv
          rw [List.getElem?_map] at hv
          cases hj : xs[j]? with
          | none => rw [hj] at hv; cases hv
          | some y => rw [hj] at hv; cases hv; rfl
        · intro j x v hx hv
          rw [List.getElem?_map] at hx hv
          cases hj : xs[j]? with
          | none => rw [hj] at hv; cases hv
          | some y => rw [hj] at hx hv; cases hx; cases hv; exact .d (.int _ _)
      exact ⟨ints [z.1.1, z.1.2.1], ints [z.1.1, z.1.2.1, z.1.2.2]⟩
    · obtain ⟨z, hz, rfl⟩ := at_ i e he
      exact hof z (List.mem_of_getElem? hz)
    · obtain ⟨z, hz, rfl⟩ := at_ i e he
      obtain ⟨y, hy, rfl⟩ := at_ j e' he'
      have h1 := (List.getElem?_eq_some_iff.1 hz).1
      refine (List.getElem?_inj (l := zf.map (·.2)) (by simpa using h1) hsf).1 ?_
      rw [List.getElem?_map, List.getElem?_map, hz, hy]
      exact congrArg some hbn
  · rw [← hfl fun k => !ks.any (eqK k), List.length_map]
    exact .d (.int _ _)
end Go.Proofs.Ytkenimmellonjaa
/- Seat r2: Keep of a set that nothing was put into. -/
namespace Go.Proofs.Ytkenimmellonjaa
open Go.RowKit Go.Maps Go.Shelf
open Go.Pv
set_option maxRecDepth 100000 in
set_option maxHeartbeats 1000000 in
theorem keepNW (n c : Nat) (tt : TypeId) (w : World) (v1 : Value) (hc : w.heap[c]? = some (.cells #[.map none] tt (0, 0))) :
    CallsIn Fence.wide n Try.prog 44 #[.pointer (some ⟨c, 0, none⟩), v1] w fun e w' => e = .returned (.int .i64 0) ∧ Below w.heap.size w w' := by
  refine callsIn_of_wp Try.func44 rfl trivial ?_ rfl
  simp only [Try.ntmps44, List.size_toArray, List.length_cons, List.length_nil, Nat.reduceAdd, Nat.reduceSub, Array.replicate_succ, Array.replicate_zero, List.push_toArray, List.append_toArray, List.nil_append, List.cons_append]
  have hc0 : w.cell? ⟨c, 0, none⟩ = some (.map none) := by simp [World.cell?, hc]
  have hrg := run_range_nilMap (P := Try.prog) w 31 36 38 Try.underlying31
  have hnx : ∀ ty, (Instr.next (.pointer (some ⟨w.heap.size, 0, none⟩)) false ty).run Try.prog (w.alloc (.mapIter none 0 #[] 0)) = _ := fun ty => run_next_nilMap _ ty 0 0 #[]
  gi_wp2
  refine wpIn_loop_rounds 1 ?_
  rw [roundsIn_succ]
  gi_wp2
  go_ret
  exact ⟨rfl, (Below.refl _ w).alloc (Nat.le_refl _) _⟩
theorem keep44_none (x : AV) : Contract Try.prog G0 44 [.ref (.g 0) 0, x] [(0, nilC)] (fun r t => r = .d (.int .i64 0) ∧ t = [(0, nilC)]) := by
  refine ⟨enters_of Try.func44 (by kernel_rfl) rfl, fun g F U w vals hS hG hlv hv => ?_⟩
  obtain ⟨v, v1, rfl⟩ : ∃ v v1, vals = [v, v1] := by
    match vals, hlv with
    | [v, v1], _ => exact ⟨v, v1, rfl⟩
  have hrv := hv 0 _ v rfl rfl
  obtain ⟨c, hgc, rfl⟩ : ∃ c, g 0 = some c ∧ v = .pointer (some ⟨c, 0, none⟩) := by
    cases hrv with
    | ref _ _ b hb => exact ⟨b, hb, rfl⟩
  obtain ⟨arr, tt, hc, hsz, hc1⟩ := hS.rb (.g 0) nilC c (by simp [Here]) hgc
  have hsz : arr.size = 1 := hsz
  obtain ⟨u, hu⟩ : ∃ u, arr[0]? = some u := ⟨_, Array.getElem?_eq_getElem (by omega)⟩
  have hru := (hc1 0 _ u rfl hu).2
  obtain rfl : u = .map none := by
    cases hru with
    | d h => cases h; rfl
  obtain rfl : arr = #[.map none] := by
    apply Array.ext'
    match h : arr.toList, (show arr.toList.length = 1 by simpa using hsz) with
    | [x], _ =>
      have : arr.toList[0]? = some (.map none) := by rw [Array.getElem?_toList]; exact hu
      rw [h] at this
      simpa using this
  refine (callsIn_wide.1 (keepNW 5 c tt w v1 hc)).mono ?_
  rintro e w' ⟨rfl, hB⟩
  exact ⟨_, .d (.int .i64 0), _, g, F, U, rfl, ⟨rfl, rfl⟩, fun _ _ h => h, fun id ab h => .inl ⟨ab, h⟩, fun _ h => h, fun _ h => h, fun _ h => .inl h, ext_below hB hS.Ult, St.later hS hB, .d (.int _ _)⟩
end Go.Proofs.Ytkenimmellonjaa
/- Seat r2: all latches of a set, as data. -/
namespace Go.Proofs.Ytkenimmellonjaa
open Go.Pv Go.RowKit
set_option maxRecDepth 100000 in
theorem all27D (l : List Kl) (hl : l.length ≤ 100000) : Contract Try.prog G0 27 [.ref (.g 0) 0] (setS l) (fun r t => ∃ q : List Kl, q.Perm l ∧ Srd q ∧ r = .d (.list 3 (rowsK q)) ∧ t = setS l) := by
  refine rung27 2 [] rfl rfl ?_
  conv => whnf
  refine .obj rfl ?_
  conv => whnf
  refine ⟨_, _, ⟨WkL.refl _, values74 l⟩, fun res s1 h => ?_⟩
  obtain ⟨rfl, rfl⟩ := h
  conv => whnf
  refine .obj rfl ?_
  conv => whnf
  refine ⟨_, _, ⟨WkL.refl _, sorted73 l hl⟩, fun res s1 h => ?_⟩
  obtain ⟨q, hq, hs, ⟨rfl, rfl, rfl⟩ | ⟨c, hc, rfl, rfl⟩⟩ := h
  · conv => whnf
    refine ⟨_, _, GV.wk 2 3, ?_⟩
    conv => whnf
    exact ⟨[], hq, hs, rfl, rfl⟩
  · have hr := rowsK_len q
    conv => whnf
    refine ⟨_, _, GV.freeze 3 rfl (by simp) (by repeat' first | exact trivial | apply And.intro | decide | (simp; done) | omega) (by repeat' first | exact trivial | apply And.intro | decide | (simp; done)), ?_⟩
    conv => whnf
    rw [List.drop_zero, List.take_of_length_le (by omega)]
    exact ⟨q, hq, hs, rfl, rfl⟩
end Go.Proofs.Ytkenimmellonjaa
/- Seat r2: what is kept: the walk. -/
namespace Go.Proofs.Ytkenimmellonjaa
open Go.Pv Go.RowKit Go.Shelf
theorem hasK_iff {l : List Kl} {k : Kl} : hasK l k = true ↔ k ∈ l := by
  unfold hasK
  rw [List.any_eq_true]
  constructor
  · rintro ⟨x, hx, h⟩
    have : x = k := by
      unfold sameK at h
      cases h1 : x.1 == k.1 with
      | false => rw [h1] at h; cases h
      | true =>
        rw [h1] at h
        cases h2 : x.2.1 == k.2.1 with
        | false => rw [h2] at h; cases h
        | true =>
          rw [h2] at h
          exact Prod.ext (by simpa using h1) (Prod.ext (by simpa using h2) (by simpa using h))
    exact this ▸ hx
  · intro h
    exact ⟨k, h, by simp [sameK]⟩
theorem any_eqK (l : List Kl) (k : Kl) : l.any (eqK k) = hasK l k := by
  rw [Bool.eq_iff_iff, hasK_iff, List.any_eq_true]
  constructor
  · rintro ⟨x, hx, h⟩
    have : k = x := by
      unfold eqK at h
      cases h1 : k.1 == x.1 with
      | false => rw [h1] at h; cases h
      | true =>
        rw [h1] at h
        cases h2 : k.2.1 == x.2.1 with
        | false => rw [h2] at h; cases h
        | true =>
          rw [h2] at h
          exact Prod.ext (by simpa using h1) (Prod.ext (by simpa using h2) (by simpa using h))
    exact this ▸ hx
  · intro h
    exact ⟨k, h, by simp [eqK]⟩
theorem keepH (l : List Kl) (hn : Ks l) (hl : l.length ≤ 100000) (ks : List Kl) (hk : ks.length ≤ 100000) : Contract Try.prog G0 44 [.ref (.g 0) 0, .d (.list 3 (rowsK ks))] (setS l) (fun r t => r = .d (.int .i64 ((l.filter fun k => !hasK ks k).length : Int)) ∧ t = setS (l.filter (hasK ks))) := by
  have := keep44 l hn hl ks hk
  simp only [any_eqK] at this
  exact this
def putN (l : List Kl) (i : Nat) : List Kl := puts (l.take i)
theorem putN_succ {l : List Kl} {i : Nat} {x : Kl} (hx : l[i]? = some x) : putN l (i + 1) = putL (putN l i) x := by
  unfold putN
  rw [List.take_add_one, hx]
  exact puts_snoc _ _
theorem putN_ne {l : List Kl} {i : Nat} (hi : 0 < i) (hl : i ≤ l.length) : putN l i ≠ [] := puts_ne fun e => by
  have := congrArg List.length e
  simp only [List.length_take, List.length_nil] at this
  omega
set_option maxHeartbeats 4000000 in
set_option maxRecDepth 100000 in
theorem callsKeep (l ks : List Kl) : Contract Try.prog G0 11 [.d (.list 3 (rowsK l)), .d (.list 3 (rowsK ks))] [] (fun r t => r = .d (.bool true) ∧ t = []) := by
  have hlen := rowsK_len l
  have hken := rowsK_len ks
  refine run11 0 [] rfl rfl ?_
  conv => whnf
  refine .scal [] _ ⟨.refl _, rfl, first25⟩ ?_
  conv => whnf
  refine bcase_intro (fun h => ?_) (fun h => ?_) <;> conv => whnf
  · exact ⟨rfl, rfl⟩
  have h : (bif decide (((rowsK l).length : Int) > 20) then true else decide (((rowsK ks).length : Int) > 20)) = false := h
  have h20 : l.length ≤ 20 ∧ ks.length ≤ 20 := by
    rw [hlen, hken] at h
    cases h1 : decide ((l.length : Int) > 20) with
    | true => rw [h1] at h; cases h
    | false =>
      rw [h1] at h
      have := of_decide_eq_false h1
      have := of_decide_eq_false (show decide ((ks.length : Int) > 20) = false from h)
      omega
  refine StopG.rounds wk11 [] [0, 1, 5, 6, 7] (fun m env s => ∃ i : Nat, i ≤ l.length ∧ m = l.length - i ∧ env = [(0, .d (.list 3 (rowsK l))), (1, .d (.list 3 (rowsK ks))), (5, .d (.bool true)), (6, .ref (.g 0) 0), (7, .d (.int .i64 (i : Int)))] ∧
    ((i = 0 ∧ s = [(0, nilC)]) ∨ (0 < i ∧ s = setS (putN l i)))) rfl ?_ ?_
  · conv => whnf
    exact ⟨_, 0, Nat.zero_le _, rfl, rfl, .inl ⟨rfl, rfl⟩⟩
  rintro m env s ⟨i, hi, rfl, rfl, hs⟩
  rcases Nat.lt_or_ge i l.length with hil | hil
  · obtain ⟨x, hx, _⟩ := at_i hil
    rcases hs with ⟨rfl, rfl⟩ | ⟨hi0, rfl⟩
    · conv => whnf
      rw [hlen, decide_eq_true (show ((0 : Nat) : Int) < (l.length : Int) by omega)]
      conv => whnf
      refine ⟨rowK x, ⟨by omega, row_i hx⟩, ?_⟩
      conv => whnf
      refine .obj rfl ?_
      conv => whnf
      refine ⟨_, _, ⟨WkL.refl _, put_none x⟩, fun res s1 h => ?_⟩
      obtain ⟨rfl, rfl⟩ := h
      conv => whnf
      rw [succ_i hil (by omega)]
      have f1 : putN l (0 + 1) = [x] := by rw [putN_succ hx]; rfl
      exact ⟨_, by omega, 0 + 1, hil, rfl, rfl, .inr ⟨by omega, by rw [f1]; rfl⟩⟩
    · conv => whnf
      rw [hlen, decide_eq_true (show (i : Int) < (l.length : Int) by omega)]
      conv => whnf
      refine ⟨rowK x, ⟨by omega, row_i hx⟩, ?_⟩
      conv => whnf
      refine .obj rfl ?_
      conv => whnf
      refine ⟨_, _, ⟨WkL.refl _, put_some (putN l i) (puts_ks _) (putN_ne hi0 hi) x⟩, fun res s1 h => ?_⟩
      obtain ⟨rfl, rfl⟩ := h
      conv => whnf
      rw [succ_i hil (by omega)]
      exact ⟨_, by omega, i + 1, hil, rfl, rfl, .inr ⟨by omega, by rw [putN_succ hx]; rfl⟩⟩
  have hie : i = l.length := by omega
  subst hie
  rcases hs with ⟨hl0, rfl⟩ | ⟨hi0, rfl⟩
  · have hl0 : l = [] := List.eq_nil_of_length_eq_zero hl0
    subst hl0
    conv => whnf
    refine .obj rfl ?_
    conv => whnf
    refine ⟨_, _, ⟨WkL.refl _, all27_none⟩, fun res s1 h => ?_⟩
    obtain ⟨rfl, rfl⟩ := h
    conv => whnf
    refine .obj rfl ?_
    conv => whnf
    refine ⟨_, _, ⟨WkL.refl _, keep44_none _⟩, fun res s1 h => ?_⟩
    obtain ⟨rfl, rfl⟩ := h
    conv => whnf
    refine .obj rfl ?_
    conv => whnf
    refine ⟨_, _, ⟨WkL.refl _, all27_none⟩, fun res s1 h => ?_⟩
    obtain ⟨rfl, rfl⟩ := h
    conv => whnf
    refine StopG.rounds wk11 [] [1, 5, 6, 8, 9, 10, 11, 12] (fun m env s => m = 0 ∧ env = [(1, .d (.list 3 (rowsK ks))), (5, .d (.bool true)), (6, .ref (.g 0) 0), (8, .d (.list 3 [])), (9, .d (.int .i64 0)), (10, .d (.list 3 [])), (11, .d (.int .i64 0)), (12, .d (.int .i64 0))] ∧ s = [(0, nilC)]) rfl ?_ ?_
    · conv => whnf
      exact ⟨_, rfl, rfl, rfl⟩
    rintro m env s ⟨rfl, rfl, rfl⟩
    conv => whnf
    refine StopG.rounds wk11 [] [5, 6, 8, 9, 10, 11, 14] (fun m env s => m = 0 ∧ env = [(5, .d (.bool true)), (6, .ref (.g 0) 0), (8, .d (.list 3 [])), (9, .d (.int .i64 0)), (10, .d (.list 3 [])), (11, .d (.int .i64 0)), (14, .d (.int .i64 0))] ∧ s = [(0, nilC)]) rfl ?_ ?_
    · conv => whnf
      exact ⟨_, rfl, rfl, rfl⟩
    rintro m env s ⟨rfl, rfl, rfl⟩
    conv => whnf
    refine .obj rfl ?_
    conv => whnf
    refine ⟨_, _, ⟨WkL.refl _, all27_none⟩, fun res s1 h => ?_⟩
    obtain ⟨rfl, rfl⟩ := h
    conv => whnf
    refine StopG.rounds wk11 [] [5, 6, 8, 9, 10, 11, 15, 16] (fun m env s => m = 0 ∧ env = [(5, .d (.bool true)), (6, .ref (.g 0) 0), (8, .d (.list 3 [])), (9, .d (.int .i64 0)), (10, .d (.list 3 [])), (11, .d (.int .i64 0)), (15, .d (.list 3 [])), (16, .d (.int .i64 0))] ∧ s = [(0, nilC)]) rfl ?_ ?_
    · conv => whnf
      exact ⟨_, rfl, rfl, rfl⟩
    rintro m env s ⟨rfl, rfl, rfl⟩
    conv => whnf
    refine .objg (fun _ => ?_) (fun h => absurd ?_ h)
    · conv => whnf
      refine ⟨_, _, ⟨WkL.refl _, len_none⟩, fun res s1 h => ?_⟩
      obtain ⟨rfl, rfl⟩ := h
      conv => whnf
      refine .objg (fun _ => ?_) (fun h => absurd ?_ h)
      · conv => whnf
        refine ⟨_, _, ⟨WkL.refl _, keep44_none _⟩, fun res s1 h => ?_⟩
        obtain ⟨rfl, rfl⟩ := h
        conv => whnf
        refine .objg (fun _ => ?_) (fun h => absurd ?_ h)
        · conv => whnf
          refine ⟨_, _, ⟨WkL.refl _, len_none⟩, fun res s1 h => ?_⟩
          obtain ⟨rfl, rfl⟩ := h
          conv => whnf
          exact ⟨rfl, rfl⟩
        · exact rfl
      · exact rfl
    · exact rfl
  · have hAk := puts_ks (l.take l.length)
    have hAl := puts_len (l.take l.length)
    have hA0 := putN_ne hi0 (Nat.le_refl _)
    rw [List.length_take, Nat.min_self] at hAl
    change Ks (putN l l.length) at hAk
    change (putN l l.length).length ≤ l.length at hAl
    generalize putN l l.length = A at *
    have hgo : ((A.filter fun k => !hasK ks k).length : Int) = (A.length : Int) - ((A.filter (hasK ks)).length : Int) := by
      have : ∀ (r : List Kl), (r.filter fun k => !hasK ks k).length + (r.filter (hasK ks)).length = r.length := by
        intro r
        induction r with
        | nil => rfl
        | cons x r ih =>
          rw [List.filter_cons, List.filter_cons]
          cases hasK ks x
          · simp only [Bool.not_false, if_true, Bool.false_eq_true, if_false, List.length_cons]; omega
          · simp only [Bool.not_true, if_true, Bool.false_eq_true, if_false, List.length_cons]; omega
      have := this A
      omega
    have hBk : Ks (A.filter (hasK ks)) := hAk.sublist (List.filter_sublist.map _)
    have hBl : (A.filter (hasK ks)).length ≤ A.length := List.length_filter_le ..
    have hBmem : ∀ x, x ∈ A.filter (hasK ks) ↔ x ∈ A ∧ hasK ks x = true := fun x => List.mem_filter
    have hk44 := keepH A hAk (by omega) ks (by omega)
    have hcnt : ∀ q : List Kl, q.Perm A → (q.filter (hasK ks)).length = (A.filter (hasK ks)).length := fun q hq => (hq.filter _).length_eq
    generalize A.filter (hasK ks) = B at *
    generalize ((A.filter fun k => !hasK ks k).length : Int) = gone at *
    conv => whnf
    rw [hlen, decide_eq_false (show ¬ (l.length : Int) < (l.length : Int) by omega)]
    conv => whnf
    refine .obj rfl ?_
    conv => whnf
    refine ⟨_, _, ⟨WkL.refl _, all27D A (by omega)⟩, fun res s1 h => ?_⟩
    obtain ⟨q1, hq1, _, rfl, rfl⟩ := h
    have hr1 := rowsK_len q1
    have hl1 := hq1.length_eq
    have hcq := hcnt q1 hq1
    conv => whnf
    refine .obj rfl ?_
    conv => whnf
    refine ⟨_, _, ⟨WkL.refl _, hk44⟩, fun res s1 h => ?_⟩
    obtain ⟨rfl, rfl⟩ := h
    conv => whnf
    refine .obj rfl ?_
    conv => whnf
    refine ⟨_, _, ⟨WkL.refl _, all27 B (by omega)⟩, fun res s1 h => ?_⟩
    obtain ⟨q2, hq2, _, hs2⟩ := h
    have hr2 := rowsK_len q2
    have hl2 := hq2.length_eq
    have hsame : ∀ x ∈ q1, hasK q2 x = hasK ks x := fun x hx => by
      rw [Bool.eq_iff_iff, hasK_iff, hq2.mem_iff, hBmem]
      exact ⟨fun h => h.2, fun h => ⟨hq1.subset hx, h⟩⟩
    have hcs : ∀ (j : Nat) (x : Kl), q1[j]? = some x → ((q1.take (j + 1)).filter (hasK ks)).length = ((q1.take j).filter (hasK ks)).length + (if hasK ks x = true then 1 else 0) := fun j x hx => by
      rw [List.take_add_one, hx, List.filter_append, List.length_append]
      simp only [Option.toList, List.filter_cons, List.filter_nil]
      split <;> rfl
    have hcl : ∀ j, ((q1.take j).filter (hasK ks)).length ≤ 20 := fun j => by
      have h1 := List.length_filter_le (hasK ks) (q1.take j)
      rw [List.length_take] at h1
      omega
    rcases hs2 with ⟨rfl, rfl, rfl⟩ | ⟨c, hc, rfl, rfl⟩
    · conv => whnf
      refine StopG.rounds wk11 [] [1, 5, 6, 8, 9, 10, 11, 12] (fun m env s => ∃ j : Nat, j ≤ q1.length ∧ m = q1.length - j ∧ env = [(1, .d (.list 3 (rowsK ks))), (5, .d (.bool true)), (6, .ref (.g 0) 0), (8, .d (.list 3 (rowsK q1))), (9, .d (.int .i64 gone)), (10, .d .nil), (11, .d (.int .i64 (((q1.take j).filter (hasK ks)).length : Int))), (12, .d (.int .i64 (j : Int)))] ∧ s = setS B) rfl ?_ ?_
      · conv => whnf
        exact ⟨_, 0, Nat.zero_le _, rfl, rfl, rfl⟩
      rintro m env s ⟨j, hj, rfl, rfl, rfl⟩
      conv => whnf
      refine bcase_intro (fun h => ?_) (fun h => ?_) <;> conv => whnf
      · have hjl := lt_of h
        rw [hr1] at hjl
        obtain ⟨x, hx, _⟩ := at_i hjl
        have hsx := hsame x (List.mem_of_getElem? hx)
        have hcx := hcs j x hx
        have hcj := hcl j
        refine ⟨rowK x, ⟨by omega, row_i hx⟩, ?_⟩
        conv => whnf
        refine .scal [.d (.list 3 (rowsK ks)), latV x.1 x.2.1 x.2.2] _ ⟨.refl _, rfl, hasLatch ks (by omega) _ _ _⟩ ?_
        conv => whnf
        refine ⟨rowK x, ⟨by omega, row_i hx⟩, ?_⟩
        conv => whnf
        refine .scal [.d (.list 3 (rowsK [])), latV x.1 x.2.1 x.2.2] _ ⟨.n 3 (.refl _), rfl, hasLatch [] (by decide) _ _ _⟩ ?_
        conv => whnf
        refine bcase_intro (fun hg => ?_) (fun hg => ?_)
        · exfalso
          have hg : (hasK [] x != hasK ks x) = true := hg
          rw [hsx] at hg
          simp at hg
        conv => whnf
        refine bcase_intro (fun hg2 => ?_) (fun hg2 => ?_) <;> conv => whnf
        · have hg2 : hasK ks x = true := hg2
          rw [hg2, if_pos rfl] at hcx
          rw [succ_i hjl (by omega)]
          refine ⟨_, by omega, j + 1, hjl, rfl, ?_, rfl⟩
          rw [hcx, wrap_id (by omega) (by omega)]
          rfl
        · have hg2 : hasK ks x = false := hg2
          rw [hg2, if_neg (by simp)] at hcx
          rw [succ_i hjl (by omega)]
          refine ⟨_, by omega, j + 1, hjl, rfl, ?_, rfl⟩
          rw [hcx]
          rfl
      have hjl := ge_of h
      rw [hr1] at hjl
      rw [List.take_of_length_le hjl, hcq]
      refine StopG.rounds wk11 [] [5, 6, 8, 9, 10, 11, 14] (fun m env s => m = 0 ∧ env = [(5, .d (.bool true)), (6, .ref (.g 0) 0), (8, .d (.list 3 (rowsK q1))), (9, .d (.int .i64 gone)), (10, .d .nil), (11, .d (.int .i64 (B.length : Int))), (14, .d (.int .i64 0))] ∧ s = setS B) rfl ?_ ?_
      · conv => whnf
        exact ⟨_, rfl, rfl, rfl⟩
      rintro m env s ⟨rfl, rfl, rfl⟩
      conv => whnf
      refine .obj rfl ?_
      conv => whnf
      refine ⟨_, _, ⟨WkL.refl _, all27D B (by omega)⟩, fun res s1 h => ?_⟩
      obtain ⟨q3, hq3, _, rfl, rfl⟩ := h
      have hr3 := rowsK_len q3
      have hl3 := hq3.length_eq
      conv => whnf
      refine StopG.rounds wk11 [] [5, 6, 8, 9, 10, 11, 15, 16] (fun m env s => ∃ j : Nat, j ≤ q3.length ∧ m = q3.length - j ∧ env = [(5, .d (.bool true)), (6, .ref (.g 0) 0), (8, .d (.list 3 (rowsK q1))), (9, .d (.int .i64 gone)), (10, .d .nil), (11, .d (.int .i64 (B.length : Int))), (15, .d (.list 3 (rowsK q3))), (16, .d (.int .i64 (j : Int)))] ∧ s = setS B) rfl ?_ ?_
      · conv => whnf
        exact ⟨_, 0, Nat.zero_le _, rfl, rfl, rfl⟩
      rintro m env s ⟨j3, hj3, rfl, rfl, rfl⟩
      conv => whnf
      refine bcase_intro (fun h => ?_) (fun h => ?_) <;> conv => whnf
      · have hjl := lt_of h
        rw [hr3] at hjl
        obtain ⟨x, hx, _⟩ := at_i hjl
        have hwas : hasK q1 x = true := hasK_iff.2 (hq1.symm.subset ((hBmem x).1 (hq3.subset (List.mem_of_getElem? hx))).1)
        refine ⟨rowK x, ⟨by omega, row_i hx⟩, ?_⟩
        conv => whnf
        have hhl := hasLatch q1 (by omega) x.1 x.2.1 x.2.2
        rw [show hasK q1 (x.1, x.2.1, x.2.2) = true from hwas] at hhl
        refine .scal [.d (.list 3 (rowsK q1)), latV x.1 x.2.1 x.2.2] _ ⟨.refl _, rfl, hhl⟩ ?_
        conv => whnf
        rw [succ_i hjl (by omega)]
        exact ⟨_, by omega, j3 + 1, hjl, rfl, rfl, rfl⟩
      have hk2 := keepH B hBk (by omega) [] (by decide)
      have e0 : B.filter (hasK []) = [] := List.filter_eq_nil_iff.2 fun x _ => by simp [hasK]
      have e1 : B.filter (fun k => !hasK [] k) = B := List.filter_eq_self.2 fun x _ => by simp [hasK]
      rw [e0, e1] at hk2
      have k1 : ((0 : Int) == (B.length : Int)) = true := by rw [← hl2]; rfl
      have k2 : (gone == IntKind.wrap .i64 (((rowsK q1).length : Int) - (B.length : Int))) = true := by
        rw [hr1, hl1, wrap_id (by omega) (by omega), hgo]; simp
      have k3 : ((B.length : Int) == (B.length : Int)) = true := by simp
      rw [k1, k2]
      refine .objg (fun _ => ?_) (fun h => absurd ?_ h)
      · conv => whnf
        refine ⟨_, _, ⟨WkL.refl _, len_some B⟩, fun res s1 h => ?_⟩
        obtain ⟨rfl, rfl⟩ := h
        conv => whnf
        rw [k3]
        refine .objg (fun _ => ?_) (fun h => absurd ?_ h)
        · conv => whnf
          refine ⟨_, _, ⟨.s _ (.n 3 .nil), hk2⟩, fun res s1 h => ?_⟩
          obtain ⟨rfl, rfl⟩ := h
          conv => whnf
          rw [k3]
          refine .objg (fun _ => ?_) (fun h => absurd ?_ h)
          · conv => whnf
            refine ⟨_, _, ⟨WkL.refl _, len_some []⟩, fun res s1 h => ?_⟩
            obtain ⟨rfl, rfl⟩ := h
            conv => whnf
            exact ⟨rfl, rfl⟩
          · exact rfl
        · exact rfl
      · exact rfl
    · conv => whnf
      refine StopG.rounds wk11 [] [1, 5, 6, 8, 9, 10, 11, 12] (fun m env s => ∃ j : Nat, j ≤ q1.length ∧ m = q1.length - j ∧ env = [(1, .d (.list 3 (rowsK ks))), (5, .d (.bool true)), (6, .ref (.g 0) 0), (8, .d (.list 3 (rowsK q1))), (9, .d (.int .i64 gone)), (10, .slc (.g 1) 3 0 q2.length c), (11, .d (.int .i64 (((q1.take j).filter (hasK ks)).length : Int))), (12, .d (.int .i64 (j : Int)))] ∧ s = [(0, .cells [.mp (.g 2)]), (1, .row 3 (rowsK q2)), (2, .dmap (encL B))]) rfl ?_ ?_
      · conv => whnf
        exact ⟨_, 0, Nat.zero_le _, rfl, rfl, rfl⟩
      rintro m env s ⟨j, hj, rfl, rfl, rfl⟩
      conv => whnf
      refine bcase_intro (fun h => ?_) (fun h => ?_) <;> conv => whnf
      · have hjl := lt_of h
        rw [hr1] at hjl
        obtain ⟨x, hx, _⟩ := at_i hjl
        have hsx := hsame x (List.mem_of_getElem? hx)
        have hcx := hcs j x hx
        have hcj := hcl j
        refine ⟨rowK x, ⟨by omega, row_i hx⟩, ?_⟩
        conv => whnf
        refine .scal [.d (.list 3 (rowsK ks)), latV x.1 x.2.1 x.2.2] _ ⟨.refl _, rfl, hasLatch ks (by omega) _ _ _⟩ ?_
        conv => whnf
        refine ⟨rowK x, ⟨by omega, row_i hx⟩, ?_⟩
        conv => whnf
        refine .scal [.d (.list 3 (rowsK q2)), latV x.1 x.2.1 x.2.2] _ ⟨.own 1 3 0 q2.length c (rowsK q2) (rowsK q2) rfl (by omega) (by decide) (by rw [List.drop_zero, List.take_of_length_le (by omega)]) (.refl _), rfl, hasLatch q2 (by omega) _ _ _⟩ ?_
        conv => whnf
        refine bcase_intro (fun hg => ?_) (fun hg => ?_)
        · exfalso
          have hg : (hasK q2 x != hasK ks x) = true := hg
          rw [hsx] at hg
          simp at hg
        conv => whnf
        refine bcase_intro (fun hg2 => ?_) (fun hg2 => ?_) <;> conv => whnf
        · have hg2 : hasK ks x = true := hg2
          rw [hg2, if_pos rfl] at hcx
          rw [succ_i hjl (by omega)]
          refine ⟨_, by omega, j + 1, hjl, rfl, ?_, rfl⟩
          rw [hcx, wrap_id (by omega) (by omega)]
          rfl
        · have hg2 : hasK ks x = false := hg2
          rw [hg2, if_neg (by simp)] at hcx
          rw [succ_i hjl (by omega)]
          refine ⟨_, by omega, j + 1, hjl, rfl, ?_, rfl⟩
          rw [hcx]
          rfl
      have hjl := ge_of h
      rw [hr1] at hjl
      rw [List.take_of_length_le hjl, hcq]
      refine StopG.rounds wk11 [] [5, 6, 8, 9, 10, 11, 14] (fun m env s => ∃ (j : Nat) (q : List Kl), j ≤ q2.length ∧ m = q2.length - j ∧ q.length = q2.length ∧ env = [(5, .d (.bool true)), (6, .ref (.g 0) 0), (8, .d (.list 3 (rowsK q1))), (9, .d (.int .i64 gone)), (10, .slc (.g 1) 3 0 q2.length c), (11, .d (.int .i64 (B.length : Int))), (14, .d (.int .i64 (j : Int)))] ∧ s = [(0, .cells [.mp (.g 2)]), (1, .row 3 (rowsK q)), (2, .dmap (encL B))]) rfl ?_ ?_
      · conv => whnf
        exact ⟨_, 0, q2, Nat.zero_le _, rfl, rfl, rfl, rfl⟩
      rintro m env s ⟨j2, q, hj2, rfl, hql, rfl, rfl⟩
      have hqr := rowsK_len q
      conv => whnf
      refine bcase_intro (fun h => ?_) (fun h => ?_) <;> conv => whnf
      · have hjl := lt_of h
        obtain ⟨x, hx, _⟩ := at_i (l := q) (i := j2) (by omega)
        refine ⟨⟨by omega, by omega⟩, ?_⟩
        conv => whnf
        refine ⟨rowK x, row_g hx, ?_⟩
        conv => whnf
        rw [succ_i hjl (by omega)]
        exact ⟨_, by omega, j2 + 1, q.set j2 (x.1, x.2.1, -7), hjl, rfl, by rw [List.length_set]; exact hql, rfl, congrArg (fun r => [(0, AB.cells [.mp (.g 2)]), (1, AB.row 3 r), (2, AB.dmap (encL B))]) (set_row (row := rowK) (x.1, x.2.1, -7))⟩
      refine .obj rfl ?_
      conv => whnf
      refine ⟨_, _, ⟨WkL.refl _, all27D B (by omega)⟩, fun res s1 h => ?_⟩
      obtain ⟨q3, hq3, _, rfl, rfl⟩ := h
      have hr3 := rowsK_len q3
      have hl3 := hq3.length_eq
      conv => whnf
      refine StopG.rounds wk11 [] [5, 6, 8, 9, 10, 11, 15, 16] (fun m env s => ∃ j : Nat, j ≤ q3.length ∧ m = q3.length - j ∧ env = [(5, .d (.bool true)), (6, .ref (.g 0) 0), (8, .d (.list 3 (rowsK q1))), (9, .d (.int .i64 gone)), (10, .slc (.g 1) 3 0 q2.length c), (11, .d (.int .i64 (B.length : Int))), (15, .d (.list 3 (rowsK q3))), (16, .d (.int .i64 (j : Int)))] ∧ s = [(0, .cells [.mp (.g 2)]), (1, .row 3 (rowsK q)), (2, .dmap (encL B))]) rfl ?_ ?_
      · conv => whnf
        exact ⟨_, 0, Nat.zero_le _, rfl, rfl, rfl⟩
      rintro m env s ⟨j3, hj3, rfl, rfl, rfl⟩
      conv => whnf
      refine bcase_intro (fun h => ?_) (fun h => ?_) <;> conv => whnf
      · have hjl := lt_of h
        rw [hr3] at hjl
        obtain ⟨x, hx, _⟩ := at_i hjl
        have hwas : hasK q1 x = true := hasK_iff.2 (hq1.symm.subset ((hBmem x).1 (hq3.subset (List.mem_of_getElem? hx))).1)
        refine ⟨rowK x, ⟨by omega, row_i hx⟩, ?_⟩
        conv => whnf
        have hhl := hasLatch q1 (by omega) x.1 x.2.1 x.2.2
        rw [show hasK q1 (x.1, x.2.1, x.2.2) = true from hwas] at hhl
        refine .scal [.d (.list 3 (rowsK q1)), latV x.1 x.2.1 x.2.2] _ ⟨.refl _, rfl, hhl⟩ ?_
        conv => whnf
        rw [succ_i hjl (by omega)]
        exact ⟨_, by omega, j3 + 1, hjl, rfl, rfl, rfl⟩
      have hk2 := keepH B hBk (by omega) [] (by decide)
      have e0 : B.filter (hasK []) = [] := List.filter_eq_nil_iff.2 fun x _ => by simp [hasK]
      have e1 : B.filter (fun k => !hasK [] k) = B := List.filter_eq_self.2 fun x _ => by simp [hasK]
      rw [e0, e1] at hk2
      have k1 : ((q2.length : Int) == (B.length : Int)) = true := by rw [hl2]; simp
      have k2 : (gone == IntKind.wrap .i64 (((rowsK q1).length : Int) - (B.length : Int))) = true := by
        rw [hr1, hl1, wrap_id (by omega) (by omega), hgo]; simp
      have k3 : ((B.length : Int) == (B.length : Int)) = true := by simp
      rw [k1, k2]
      refine .objg (fun _ => ?_) (fun h => absurd ?_ h)
      · conv => whnf
        refine ⟨_, _, ⟨WkL.refl _, len_some B⟩, fun res s1 h => ?_⟩
        obtain ⟨rfl, rfl⟩ := h
        conv => whnf
        rw [k3]
        refine .objg (fun _ => ?_) (fun h => absurd ?_ h)
        · conv => whnf
          refine ⟨_, _, ⟨.s _ (.n 3 .nil), hk2⟩, fun res s1 h => ?_⟩
          obtain ⟨rfl, rfl⟩ := h
          conv => whnf
          rw [k3]
          refine .objg (fun _ => ?_) (fun h => absurd ?_ h)
          · conv => whnf
            refine ⟨_, _, ⟨WkL.refl _, len_some []⟩, fun res s1 h => ?_⟩
            obtain ⟨rfl, rfl⟩ := h
            conv => whnf
            exact ⟨rfl, rfl⟩
          · exact rfl
        · exact rfl
      · exact rfl
end Go.Proofs.Ytkenimmellonjaa
/- Seat r2: Has only reads. -/
namespace Go.Proofs.Ytkenimmellonjaa
open Go.RowKit Go.Shelf
theorem keepA {w w1 : World} {b : Nat} {o : Obj} (h : w1.heap[b]? = w.heap[b]? ∧ b < w1.heap.size) : (w1.alloc o).heap[b]? = w.heap[b]? ∧ b < (w1.alloc o).heap.size :=
  ⟨(Below.heap_alloc _ _ _ h.2).trans h.1, by simp; omega⟩
theorem keepD {w w1 : World} {b : Nat} (h : w1.heap[b]? = w.heap[b]? ∧ b < w1.heap.size) : w1.drew.heap[b]? = w.heap[b]? ∧ b < w1.drew.heap.size := h
theorem keepB {w : World} {b : Nat} {o : Obj} (h : b < w.heap.size) (_ : b < w.heap.size) : (w.alloc o).drew.heap[b]? = w.heap[b]? ∧ b < (w.alloc o).drew.heap.size := ⟨Below.heap_alloc _ _ _ h, by simp; omega⟩
theorem below_drew {B : Nat} {w w1 : World} (h : Below B w w1) : Below B w w1.drew := ⟨h.os, h.tape, h.output, h.size, h.block⟩
theorem keepE {w : World} {b : Nat} {o o2 : Obj} (h : b < w.heap.size) : ((w.alloc o).alloc o2).drew.heap[b]? = w.heap[b]? ∧ b < ((w.alloc o).alloc o2).drew.heap.size := keepA (keepA ⟨rfl, h⟩)
set_option maxHeartbeats 2000000 in
set_option maxRecDepth 100000 in
theorem has29W (w : World) (c b : Nat) (x y : Int) (tt : TypeId) (k : Kl) (is : Bool) (m : Option Nat) (hc : w.heap[c]? = some (.cells #[.map m] tt (0, 0)))
    (hl : ∀ w1 : World, w1.heap[b]? = w.heap[b]? → (Instr.lookup 31 (.map m) (.agg #[.int .i64 x, .int .i64 y]) true).run Try.prog w1 = .ok (.tuple #[encK k, .bool is]) w1) (hb : b < w.heap.size) :
    Calls Try.prog 29 #[.pointer (some ⟨c, 0, none⟩), .agg #[.int .i64 x, .int .i64 y]] w fun e w' => e = .returned (.bool is) ∧ Below w.heap.size w w' := by
  have hcl := (Array.getElem?_eq_some_iff.1 hc).1
  have k0 : w.cell? ⟨c, 0, none⟩ = some (.map m) := by simp [World.cell?, hc]
  unfold encK at hl
  go_enter Try.func29, Try.ntmps29
  go_wp2
  go_region_held3 (fun w' => w'.cell? ⟨c, 0, none⟩ = some (.map m) ∧ w'.cell? ⟨w.heap.size, 0, none⟩ = some (.int .i64 x) ∧ w'.cell? ⟨w.heap.size, 1, none⟩ = some (.int .i64 y) ∧ (w'.heap[b]? = w.heap[b]? ∧ b < w'.heap.size))
    (first | (go_keep; done) | ((try dsimp only); (repeat' apply And.intro) <;> first | (go_keep; done) | exact (keepB hb hb).1 | exact (keepB hb hb).2 | exact (keepE hb).1 | exact (keepE hb).2 | (simp_all; done)))
    (fail)
  all_goals
    go_wp2
    go_ret
    refine ⟨rfl, ?_⟩
    exact below_drew (((Below.refl _ w).alloc (Nat.le_refl _) _).alloc (by simp) _)
open Go.Pv
theorem lookup_at (w : World) (b : Nat) (ents : Array MapEntry) (clock : Nat) (L : List Kl) (hn : Ks L) (a : Int × Int) (hb : w.heap[b]? = some (.map ents clock)) (hk : ents.toList.map (·.key) = L.map fun k => Value.agg #[.int .i64 k.1, .int .i64 k.2.1]) (hv : ents.toList.map (·.val) = L.map encK) :
    (Instr.lookup 31 (.map (some b)) (.agg #[.int .i64 a.1, .int .i64 a.2]) true).run Try.prog w = .ok (.tuple #[encK ((getL L a).getD (0, 0, 0)), .bool (getL L a).isSome]) w := by
  have hun : (underlying 31).run Try.prog w = .ok (.map 36 38) w := run_underlying Try.underlying31 w
  have hch := flat_check (P := Try.prog) (T := T) (w := w) tabOK flat36 (a := dxC a) (dxC_good _)
  have hlen : ents.toList.length = L.length := by simpa using congrArg List.length hk
  have hf := flat_find (P := Try.prog) (T := T) (w := w) tabOK flat36 stood36 (a := dxC a) (dxC_good _) ents.toList (L.map fun k => dxC (keyC k)) (by simpa using hlen) (fun i e d he hd => by
    have h1 : (ents.toList.map (·.key))[i]? = some e.key := by rw [List.getElem?_map, he]; rfl
    rw [hk, List.getElem?_map] at h1
    rw [List.getElem?_map] at hd
    cases hL : L[i]? with
    | none => rw [hL] at hd; cases hd
    | some k =>
      rw [hL] at hd h1
      cases hd
      have h1 : Value.agg #[.int .i64 k.1, .int .i64 k.2.1] = e.key := by simpa using h1
      exact ⟨h1.symm, dxC_good _⟩)
  have hch : ∀ em, (Instr.checkKey em 10000 36 (.agg #[.int .i64 a.1, .int .i64 a.2])).run Try.prog w = .ok () w := hch
  change ((Instr.findKey 36 (.agg #[.int .i64 a.1, .int .i64 a.2]) ents.toList).run Try.prog w = _ ∧ _) ∨ ∃ (j : Nat) (e : MapEntry), (Instr.findKey 36 (.agg #[.int .i64 a.1, .int .i64 a.2]) ents.toList).run Try.prog w = _ ∧ _ ∧ _ at hf
  rcases hf with ⟨f1, f2⟩ | ⟨j, e, f1, f2, f3⟩
  · have hg : getL L a = none := by
      cases hg : getL L a with
      | none => rfl
      | some k =>
        obtain ⟨h1, h2⟩ := aget_some hg
        exact absurd (by rw [h2]) (f2 (dxC (keyC k)) (List.mem_map.2 ⟨k, h1, rfl⟩))
    obtain ⟨z, hz1, hz2⟩ := tabOK.zv (t := 38) (ti := _) rfl
    have hz := rv_ints (xs := [0, 0, 0]) (hz2 ⟨fun _ => none, fun _ => none⟩ (fun _ => False) w)
    rw [hg]
    unfold Instr.lookup
    simp only [Sem.run_bind, hun, Result.andThen_ok, Sem.run_pure, run_getMap hb, hch, f1, hz1, hz]
    rfl
  · rw [List.getElem?_map] at f3
    cases hj : L[j]? with
    | none => rw [hj] at f3; cases f3
    | some k =>
      rw [hj] at f3
      have hka : keyC k = a := dxC_inj _ _ (by simpa using f3)
      have hval : e.val = encK k := by
        have h1 : (ents.toList.map (·.val))[j]? = some e.val := by rw [List.getElem?_map, f2]; rfl
        rw [hv, List.getElem?_map, hj] at h1
        simpa using h1.symm
      have hg : getL L a = some k := by
        cases hg : getL L a with
        | none => exact absurd hka (aget_none hg k (List.mem_of_getElem? hj))
        | some y =>
          obtain ⟨h1, h2⟩ := aget_some hg
          have := key_uniq (κ := keyC) hn h1 (List.mem_of_getElem? hj) (h2.trans hka.symm)
          rw [this]
      rw [hg]
      unfold Instr.lookup
      simp only [Sem.run_bind, hun, Result.andThen_ok, Sem.run_pure, run_getMap hb, hch, f1, hval]
      rfl
theorem lookup_nil (w : World) (a : Int × Int) : (Instr.lookup 31 (.map none) (.agg #[.int .i64 a.1, .int .i64 a.2]) true).run Try.prog w = .ok (.tuple #[encK (0, 0, 0), .bool false]) w := by
  have hun : (underlying 31).run Try.prog w = .ok (.map 36 38) w := run_underlying Try.underlying31 w
  have hch := flat_check (P := Try.prog) (T := T) (w := w) tabOK flat36 (a := dxC a) (dxC_good _)
  have hch : ∀ em, (Instr.checkKey em 10000 36 (.agg #[.int .i64 a.1, .int .i64 a.2])).run Try.prog w = .ok () w := hch
  have hfind : (Instr.findKey 36 (.agg #[.int .i64 a.1, .int .i64 a.2]) []).run Try.prog w = .ok none w := by
    unfold Instr.findKey
    simp only [Sem.run_bind, run_underlying Try.underlying36 w, Result.andThen_ok]
    rfl
  obtain ⟨z, hz1, hz2⟩ := tabOK.zv (t := 38) (ti := _) rfl
  have hz := rv_ints (xs := [0, 0, 0]) (hz2 ⟨fun _ => none, fun _ => none⟩ (fun _ => False) w)
  unfold Instr.lookup
  simp only [Sem.run_bind, hun, Result.andThen_ok, Sem.run_pure, hch, hfind, hz1, hz]
  rfl
/-- The two that come in. -/
theorem args29 {M : Mp} {F : Nat → Prop} {w : World} {c : Nat} {a : Int × Int} {vals : List Value} (hl : vals.length = 2) (hv : ∀ (j : Nat) (x : AV) (u : Value), [AV.ref (.g c) 0, calC a][j]? = some x → vals[j]? = some u → RV M F w x u) :
    ∃ B, M.g c = some B ∧ vals = [.pointer (some ⟨B, 0, none⟩), .agg #[.int .i64 a.1, .int .i64 a.2]] := by
  obtain ⟨v, u, rfl⟩ : ∃ v u, vals = [v, u] := by
    match vals, hl with
    | [v, u], _ => exact ⟨v, u, rfl⟩
  have h1 := hv 0 _ v rfl rfl
  have h2 := rv_ints (xs := [a.1, a.2]) (hv 1 _ u rfl rfl)
  cases h1 with
  | ref _ _ B hB => exact ⟨B, hB, by rw [h2]; rfl⟩
theorem cell_one {M : Mp} {F : Nat → Prop} {w : World} {B : Nat} {x : AV} {u : Value} (h : RB M F w B (.cells [x])) (hx : ∀ v, RV M F w x v → v = u) : ∃ tt, w.heap[B]? = some (.cells #[u] tt (0, 0)) := by
  obtain ⟨arr, tt, hc, hsz, hc1⟩ := h
  have hsz : arr.size = 1 := hsz
  obtain ⟨v, hu⟩ : ∃ v, arr[0]? = some v := ⟨_, Array.getElem?_eq_getElem (by omega)⟩
  have h1 := hx v (hc1 0 _ v rfl hu).2
  subst h1
  refine ⟨tt, ?_⟩
  rw [hc]
  have : arr = #[v] := by
    apply Array.ext'
    match h : arr.toList, (show arr.toList.length = 1 by simpa using hsz) with
    | [x], _ =>
      have : arr.toList[0]? = some v := by rw [Array.getElem?_toList]; exact hu
      rw [h] at this
      simpa using this
  rw [this]
theorem reads29 {s : List (Nat × AB)} {c m : Nat} {L : List Kl} (hc : (c, AB.cells [.mp (.g m)]) ∈ s) (hm : (m, AB.dmap (encL L)) ∈ s) (hn : Ks L) (a : Int × Int) : Reads Try.prog G0 s 29 [.ref (.g c) 0, calC a] (.d (.bool (getL L a).isSome)) := by
  refine ⟨enters_of Try.func29 (by kernel_rfl) rfl, fun M F U Ls w vals hS hG hlen hv => ?_⟩
  obtain ⟨B, hB, rfl⟩ := args29 hlen hv
  obtain ⟨b, hb⟩ := hS.tot m _ hm
  obtain ⟨tt, hcell⟩ := cell_one (u := .map (some b)) (hS.rb (.g c) _ B hc hB) fun v h => by
    cases h with
    | mp _ b2 h2 =>
      have : M.g m = some b2 := h2
      rw [hb] at this
      cases this
      rfl
  obtain ⟨ents, clock, hmap, h2, h3, h4, h5⟩ := hS.rb (.g m) _ b hm hb
  have hvals := vals_of h2 h3
  have hkeys := keys_of h2 h3
  refine (has29W w B b a.1 a.2 tt ((getL L a).getD (0, 0, 0)) (getL L a).isSome (some b) hcell (fun w1 h1 => lookup_at w1 b ents clock L hn a (h1.trans hmap) hkeys hvals) (Array.getElem?_eq_some_iff.1 hmap).1).mono ?_
  rintro e w' ⟨rfl, hBe⟩
  exact ⟨_, rfl, .d (.bool _), hBe⟩
theorem reads29N {s : List (Nat × AB)} {c : Nat} (hc : (c, AB.cells [.d (.raw (.map .none))]) ∈ s) (a : Int × Int) : Reads Try.prog G0 s 29 [.ref (.g c) 0, calC a] (.d (.bool false)) := by
  refine ⟨enters_of Try.func29 (by kernel_rfl) rfl, fun M F U Ls w vals hS hG hlen hv => ?_⟩
  obtain ⟨B, hB, rfl⟩ := args29 hlen hv
  obtain ⟨tt, hcell⟩ := cell_one (u := .map none) (hS.rb (.g c) _ B hc hB) fun v h => by
    cases h with
    | d h => cases h; rfl
  refine (has29W w B B a.1 a.2 tt (0, 0, 0) false none hcell (fun w1 _ => lookup_nil w1 a) (Array.getElem?_eq_some_iff.1 hcell).1).mono ?_
  rintro e w' ⟨rfl, hBe⟩
  exact ⟨_, rfl, .d (.bool _), hBe⟩
end Go.Proofs.Ytkenimmellonjaa
/- Seat r2: sets of calls played: the walk. -/
namespace Go.Proofs.Ytkenimmellonjaa
open Go.Pv Go.RowKit
structure Dt where
  kind : Int
  lt : Kl
  kp : List Kl
def rowD (d : Dt) : List DV := [.int .i64 d.kind, .int .i64 d.lt.1, .int .i64 d.lt.2.1, .int .i64 d.lt.2.2, .list 3 (rowsK d.kp)]
def rowsD (l : List Dt) : List (List DV) := l.map rowD
theorem rowsD_len (l : List Dt) : (rowsD l).length = l.length := by simp [rowsD]
abbrev cC (a : Int × Int) : AB := .cells [.d (.int .i64 a.1), .d (.int .i64 a.2)]
theorem last_eq (is e : Bool) : (bif (bif (bif true then is == is else false) then is == is else false) then e == e else false) = true := by cases is <;> cases e <;> rfl
theorem same_self (H : List Kl) (h : H.length ≤ 100000) : Contract Try.prog G0 30 [.d (.list 3 (rowsK H)), .d (.list 3 (rowsK H))] [] (fun r t => r = .d (.bool true) ∧ t = []) := by
  have := sameLatchs30 H H (by omega)
  rw [eqLs_refl fun x _ => sameK_refl x] at this
  exact this
set_option maxHeartbeats 4000000 in
set_option maxRecDepth 100000 in
theorem callsPlay (l : List Dt) (a b : Int × Int) : Contract Try.prog G0 13 [.d (.list 5 (rowsD l)), calC a, calC b] [] (fun r t => r = .d (.bool true) ∧ t = []) := by
  have hlen := rowsD_len l
  refine run13 0 [] rfl rfl ?_
  conv => whnf
  refine .scal [] _ ⟨.refl _, rfl, first25⟩ ?_
  conv => whnf
  refine bcase_intro (fun h => ?_) (fun h => ?_) <;> conv => whnf
  · exact ⟨rfl, rfl⟩
  have h60 : l.length ≤ 60 := by
    have := of_decide_eq_false h
    rw [hlen] at this
    omega
  refine StopG.roundsM wk13 [] [0, 4, 5, 7, 8, 9, 10] (fun m env s => ∃ i : Nat, ∃ H : List Kl, i ≤ l.length ∧ H.length ≤ i ∧ m = l.length - i ∧
    env = [(0, .d (.list 5 (rowsD l))), (4, .ref (.g 0) 0), (5, .ref (.g 1) 0), (7, .d (.bool true)), (8, .ref (.g 2) 0), (9, .d (.list 3 (rowsK H))), (10, .d (.int .i64 (i : Int)))] ∧
    ((H = [] ∧ s = [(0, cC a), (1, cC b), (2, nilC)]) ∨ ∃ L, Inv L H ∧ s = [(0, cC a), (1, cC b), (2, .cells [.mp (.g 3)]), (3, .dmap (encL L))])) rfl ?_ ?_
  · refine ⟨_, _, GV.wk 9 3, ?_⟩
    conv => whnf
    exact ⟨_, 0, [], Nat.zero_le _, Nat.zero_le _, rfl, rfl, .inl ⟨rfl, rfl⟩⟩
  rintro m env s ⟨i, H, hi, hH, rfl, rfl, hs⟩
  rcases Nat.lt_or_ge i l.length with hil | hil
  · obtain ⟨x, hx, _⟩ := at_i hil
    rcases hs with ⟨rfl, rfl⟩ | ⟨L, hI, rfl⟩
    · conv => whnf
      rw [hlen, decide_eq_true (show (i : Int) < (l.length : Int) by omega)]
      conv => whnf
      refine ⟨rowD x, ⟨by omega, row_i hx⟩, ?_⟩
      conv => whnf
      refine bcase_intro (fun h => ?_) (fun h => ?_) <;> conv => whnf
      · exact ⟨rfl, rfl⟩
      have hkp : x.kp.length ≤ 20 := by
        have := of_decide_eq_false h
        rw [rowsK_len] at this
        omega
      refine .obj rfl ?_
      conv => whnf
      refine ⟨_, _, ⟨WkL.refl _, clone_none⟩, fun res s1 h => ?_⟩
      obtain ⟨rfl, rfl⟩ := h
      conv => whnf
      refine .obj rfl ?_
      conv => whnf
      refine ⟨_, _, ⟨WkL.refl _, len_none⟩, fun res s1 h => ?_⟩
      obtain ⟨rfl, rfl⟩ := h
      conv => whnf
      refine bcase_intro (fun h1 => ?_) (fun h1 => ?_) <;> conv => whnf
      · have hI1 : Inv [x.lt] (plI [] x.lt) := Inv.nil.put x.lt
        have hpl : (plI [] x.lt).length = 1 := rfl
        refine .data [.d (.list 3 (rowsK [])), latK x.lt] _ ⟨WkL.refl _, rfl, putLatch52 [] x.lt (by simp)⟩ ?_
        conv => whnf
        refine .obj rfl ?_
        conv => whnf
        refine ⟨_, _, ⟨WkL.refl _, put_none x.lt⟩, fun res s1 h => ?_⟩
        obtain ⟨rfl, rfl⟩ := h
        conv => whnf
        refine .obj rfl ?_
        conv => whnf
        refine ⟨_, _, ⟨WkL.refl _, all27D [x.lt] (by have := hI1.len; omega)⟩, fun res s1 h => ?_⟩
        obtain ⟨q, hq, hqs, rfl, rfl⟩ := h
        have hqe := hI1.all hq hqs
        rw [hqe]
        conv => whnf
        refine .scal [.d (.list 3 (rowsK (plI [] x.lt))), .d (.list 3 (rowsK (plI [] x.lt)))] _ ⟨.refl _, rfl, same_self (plI [] x.lt) (by omega)⟩ ?_
        conv => whnf
        have k1 : ((([x.lt]).length : Int) != ((rowsK (plI [] x.lt)).length : Int)) = false := by rw [rowsK_len, hI1.len]; simp
        refine .objg (fun _ => ?_) (fun h => absurd ?_ h)
        · conv => whnf
          refine ⟨_, _, ⟨WkL.refl _, len_some [x.lt]⟩, fun res s1 h => ?_⟩
          obtain ⟨rfl, rfl⟩ := h
          conv => whnf
          rw [k1]
          refine .objg (fun _ => ?_) (fun h => absurd ?_ h)
          · conv => whnf
            refine ⟨_, _, ⟨WkL.refl _, len_none⟩, fun res s1 h => ?_⟩
            obtain ⟨rfl, rfl⟩ := h
            conv => whnf
            skip
            conv => whnf
            refine ⟨_, _, .refl, ?_⟩
            conv => whnf
            rw [succ_i hil (by omega)]
            exact ⟨_, by omega, i + 1, (plI [] x.lt), hil, by omega, rfl, rfl, .inr ⟨[x.lt], hI1, rfl⟩⟩
          · exact rfl
        · exact rfl
      refine bcase_intro (fun h2 => ?_) (fun h2 => ?_) <;> conv => whnf
      · refine .data [.d (.list 3 (rowsK [])), calC (keyC x.lt)] _ ⟨WkL.refl _, rfl, delLatch53 [] (by simp) (keyC x.lt)⟩ ?_
        conv => whnf
        refine .obj rfl ?_
        conv => whnf
        refine ⟨_, _, ⟨WkL.refl _, del_none (keyC x.lt)⟩, fun res s1 h => ?_⟩
        obtain ⟨rfl, rfl⟩ := h
        conv => whnf
        refine .obj rfl ?_
        conv => whnf
        refine ⟨_, _, ⟨WkL.refl _, all27_none⟩, fun res s1 h => ?_⟩
        obtain ⟨rfl, rfl⟩ := h
        conv => whnf
        refine .scal [.d (.list 3 (rowsK [])), .d (.list 3 (rowsK []))] _ ⟨.refl _, rfl, same_self [] (by omega)⟩ ?_
        conv => whnf
        refine .objg (fun _ => ?_) (fun h => absurd ?_ h)
        · conv => whnf
          refine ⟨_, _, ⟨WkL.refl _, len_none⟩, fun res s1 h => ?_⟩
          obtain ⟨rfl, rfl⟩ := h
          conv => whnf
          skip
          refine .objg (fun _ => ?_) (fun h => absurd ?_ h)
          · conv => whnf
            refine ⟨_, _, ⟨WkL.refl _, len_none⟩, fun res s1 h => ?_⟩
            obtain ⟨rfl, rfl⟩ := h
            conv => whnf
            skip
            conv => whnf
            refine ⟨_, _, .refl, ?_⟩
            conv => whnf
            rw [succ_i hil (by omega)]
            exact ⟨_, by omega, i + 1, [], hil, by simp, rfl, rfl, .inl ⟨rfl, rfl⟩⟩
          · exact rfl
        · exact rfl
      refine bcase_intro (fun h3 => ?_) (fun h3 => ?_) <;> conv => whnf
      · refine .data [.d (.list 3 (rowsK [])), .d (.list 3 (rowsK x.kp))] _ ⟨WkL.refl _, rfl, keepLatch55 [] (by simp) x.kp (by omega)⟩ ?_
        conv => whnf
        refine .obj rfl ?_
        conv => whnf
        refine ⟨_, _, ⟨WkL.refl _, keep44_none _⟩, fun res s1 h => ?_⟩
        obtain ⟨rfl, rfl⟩ := h
        conv => whnf
        refine .obj rfl ?_
        conv => whnf
        refine ⟨_, _, ⟨WkL.refl _, all27_none⟩, fun res s1 h => ?_⟩
        obtain ⟨rfl, rfl⟩ := h
        conv => whnf
        refine .scal [.d (.list 3 (rowsK [])), .d (.list 3 (rowsK []))] _ ⟨.refl _, rfl, same_self [] (by omega)⟩ ?_
        conv => whnf
        refine .objg (fun _ => ?_) (fun h => absurd ?_ h)
        · conv => whnf
          refine ⟨_, _, ⟨WkL.refl _, len_none⟩, fun res s1 h => ?_⟩
          obtain ⟨rfl, rfl⟩ := h
          conv => whnf
          skip
          refine .objg (fun _ => ?_) (fun h => absurd ?_ h)
          · conv => whnf
            refine ⟨_, _, ⟨WkL.refl _, len_none⟩, fun res s1 h => ?_⟩
            obtain ⟨rfl, rfl⟩ := h
            conv => whnf
            skip
            conv => whnf
            refine ⟨_, _, .refl, ?_⟩
            conv => whnf
            rw [succ_i hil (by omega)]
            exact ⟨_, by omega, i + 1, [], hil, by simp, rfl, rfl, .inl ⟨rfl, rfl⟩⟩
          · exact rfl
        · exact rfl
      · refine .obj rfl ?_
        conv => whnf
        refine ⟨_, _, ⟨WkL.refl _, all27_none⟩, fun res s1 h => ?_⟩
        obtain ⟨rfl, rfl⟩ := h
        conv => whnf
        refine .scal [.d (.list 3 (rowsK [])), .d (.list 3 (rowsK []))] _ ⟨.refl _, rfl, same_self [] (by omega)⟩ ?_
        conv => whnf
        refine .objg (fun _ => ?_) (fun h => absurd ?_ h)
        · conv => whnf
          refine ⟨_, _, ⟨WkL.refl _, len_none⟩, fun res s1 h => ?_⟩
          obtain ⟨rfl, rfl⟩ := h
          conv => whnf
          skip
          refine .objg (fun _ => ?_) (fun h => absurd ?_ h)
          · conv => whnf
            refine ⟨_, _, ⟨WkL.refl _, len_none⟩, fun res s1 h => ?_⟩
            obtain ⟨rfl, rfl⟩ := h
            conv => whnf
            skip
            conv => whnf
            refine ⟨_, _, .refl, ?_⟩
            conv => whnf
            rw [succ_i hil (by omega)]
            exact ⟨_, by omega, i + 1, [], hil, by simp, rfl, rfl, .inl ⟨rfl, rfl⟩⟩
          · exact rfl
        · exact rfl
    · conv => whnf
      rw [hlen, decide_eq_true (show (i : Int) < (l.length : Int) by omega)]
      conv => whnf
      refine ⟨rowD x, ⟨by omega, row_i hx⟩, ?_⟩
      conv => whnf
      refine bcase_intro (fun h => ?_) (fun h => ?_) <;> conv => whnf
      · exact ⟨rfl, rfl⟩
      have hkp : x.kp.length ≤ 20 := by
        have := of_decide_eq_false h
        rw [rowsK_len] at this
        omega
      have hL := hI.len
      have k2 : ((L.length : Int) != (L.length : Int)) = false := by simp
      refine .obj rfl ?_
      conv => whnf
      refine ⟨_, _, ⟨WkL.refl _, clone_some L⟩, fun res s1 h => ?_⟩
      obtain ⟨rfl, rfl⟩ := h
      conv => whnf
      refine .obj rfl ?_
      conv => whnf
      refine ⟨_, _, ⟨WkL.refl _, len_some L⟩, fun res s1 h => ?_⟩
      obtain ⟨rfl, rfl⟩ := h
      conv => whnf
      refine bcase_intro (fun h1 => ?_) (fun h1 => ?_) <;> conv => whnf
      · have hI1 := hI.put x.lt
        have hA := hI.anew x.lt
        have hpl := plI_len H x.lt
        have hpl : (plI H x.lt).length ≤ i + 1 := by rw [hpl]; split <;> omega
        refine .data [.d (.list 3 (rowsK H)), latK x.lt] _ ⟨WkL.refl _, rfl, putLatch52 H x.lt (by omega)⟩ ?_
        conv => whnf
        by_cases hne : L = []
        · subst hne
          obtain rfl : H = [] := List.eq_nil_of_length_eq_zero (by rw [hL]; rfl)
          have hI1 : Inv [x.lt] (plI [] x.lt) := hI1
          have hpl1 : (plI [] x.lt).length = 1 := rfl
          refine .obj rfl ?_
          conv => whnf
          refine ⟨_, _, ⟨WkL.refl _, put_nil x.lt⟩, fun res s1 h => ?_⟩
          obtain ⟨rfl, dd, rfl⟩ := h
          conv => whnf
          refine .obj rfl ?_
          conv => whnf
          refine ⟨_, _, ⟨WkL.refl _, all27D [x.lt] (by have := hI1.len; omega)⟩, fun res s1 h => ?_⟩
          obtain ⟨q, hq, hqs, rfl, rfl⟩ := h
          have hqe := hI1.all hq hqs
          rw [hqe]
          conv => whnf
          refine .scal [.d (.list 3 (rowsK (plI [] x.lt))), .d (.list 3 (rowsK (plI [] x.lt)))] _ ⟨.refl _, rfl, same_self (plI [] x.lt) (by omega)⟩ ?_
          conv => whnf
          have k1 : ((([x.lt]).length : Int) != ((rowsK (plI [] x.lt)).length : Int)) = false := by rw [rowsK_len, hI1.len]; simp
          refine .objg (fun _ => ?_) (fun h => absurd ?_ h)
          · conv => whnf
            refine ⟨_, _, ⟨WkL.refl _, len_some [x.lt]⟩, fun res s1 h => ?_⟩
            obtain ⟨rfl, rfl⟩ := h
            conv => whnf
            rw [k1]
            refine .objg (fun _ => ?_) (fun h => absurd ?_ h)
            · conv => whnf
              refine ⟨_, _, ⟨WkL.refl _, len_some []⟩, fun res s1 h => ?_⟩
              obtain ⟨rfl, rfl⟩ := h
              conv => whnf
              rw [k2]
              conv => whnf
              refine ⟨_, _, .refl, ?_⟩
              conv => whnf
              rw [succ_i hil (by omega)]
              exact ⟨_, by omega, i + 1, (plI [] x.lt), hil, hpl, rfl, rfl, .inr ⟨[x.lt], hI1, rfl⟩⟩
            · exact rfl
          · exact rfl
        · refine .obj rfl ?_
          conv => whnf
          refine ⟨_, _, ⟨WkL.refl _, put_some L hI.1 hne x.lt⟩, fun res s1 h => ?_⟩
          obtain ⟨rfl, rfl⟩ := h
          conv => whnf
          rw [hA, show ((!(getL L (keyC x.lt)).isSome) == (!(getL L (keyC x.lt)).isSome)) = true from beq_self_eq_true _]
          conv => whnf
          refine .obj rfl ?_
          conv => whnf
          refine ⟨_, _, ⟨WkL.refl _, all27D (putL L x.lt) (by have := hI1.len; omega)⟩, fun res s1 h => ?_⟩
          obtain ⟨q, hq, hqs, rfl, rfl⟩ := h
          have hqe := hI1.all hq hqs
          rw [hqe]
          conv => whnf
          refine .scal [.d (.list 3 (rowsK (plI H x.lt))), .d (.list 3 (rowsK (plI H x.lt)))] _ ⟨.refl _, rfl, same_self (plI H x.lt) (by omega)⟩ ?_
          conv => whnf
          have k1 : ((((putL L x.lt)).length : Int) != ((rowsK (plI H x.lt)).length : Int)) = false := by rw [rowsK_len, hI1.len]; simp
          refine .objg (fun _ => ?_) (fun h => absurd ?_ h)
          · conv => whnf
            refine ⟨_, _, ⟨WkL.refl _, len_some (putL L x.lt)⟩, fun res s1 h => ?_⟩
            obtain ⟨rfl, rfl⟩ := h
            conv => whnf
            rw [k1]
            refine .objg (fun _ => ?_) (fun h => absurd ?_ h)
            · conv => whnf
              refine ⟨_, _, ⟨WkL.refl _, len_some L⟩, fun res s1 h => ?_⟩
              obtain ⟨rfl, rfl⟩ := h
              conv => whnf
              rw [k2]
              conv => whnf
              refine ⟨_, _, .refl, ?_⟩
              conv => whnf
              rw [succ_i hil (by omega)]
              exact ⟨_, by omega, i + 1, (plI H x.lt), hil, hpl, rfl, rfl, .inr ⟨putL L x.lt, hI1, rfl⟩⟩
            · exact rfl
          · exact rfl
      refine bcase_intro (fun h2 => ?_) (fun h2 => ?_) <;> conv => whnf
      · have hI1 := hI.del (keyC x.lt)
        have hA := hI.was (keyC x.lt)
        have hpl : (delI H (keyC x.lt)).length ≤ i + 1 := Nat.le_trans (List.length_filter_le ..) (by omega)
        refine .data [.d (.list 3 (rowsK H)), calC (keyC x.lt)] _ ⟨WkL.refl _, rfl, delLatch53 H (by omega) (keyC x.lt)⟩ ?_
        conv => whnf
        refine .obj rfl ?_
        conv => whnf
        refine ⟨_, _, ⟨WkL.refl _, del_some L hI.1 (keyC x.lt)⟩, fun res s1 h => ?_⟩
        obtain ⟨rfl, rfl⟩ := h
        conv => whnf
        rw [hA, show (decide ((delI H (keyC x.lt)).length < H.length) == decide ((delI H (keyC x.lt)).length < H.length)) = true from beq_self_eq_true _]
        conv => whnf
        refine .obj rfl ?_
        conv => whnf
        refine ⟨_, _, ⟨WkL.refl _, all27D (delL L (keyC x.lt)) (by have := hI1.len; omega)⟩, fun res s1 h => ?_⟩
        obtain ⟨q, hq, hqs, rfl, rfl⟩ := h
        have hqe := hI1.all hq hqs
        rw [hqe]
        conv => whnf
        refine .scal [.d (.list 3 (rowsK (delI H (keyC x.lt)))), .d (.list 3 (rowsK (delI H (keyC x.lt))))] _ ⟨.refl _, rfl, same_self (delI H (keyC x.lt)) (by omega)⟩ ?_
        conv => whnf
        have k1 : ((((delL L (keyC x.lt))).length : Int) != ((rowsK (delI H (keyC x.lt))).length : Int)) = false := by rw [rowsK_len, hI1.len]; simp
        refine .objg (fun _ => ?_) (fun h => absurd ?_ h)
        · conv => whnf
          refine ⟨_, _, ⟨WkL.refl _, len_some (delL L (keyC x.lt))⟩, fun res s1 h => ?_⟩
          obtain ⟨rfl, rfl⟩ := h
          conv => whnf
          rw [k1]
          refine .objg (fun _ => ?_) (fun h => absurd ?_ h)
          · conv => whnf
            refine ⟨_, _, ⟨WkL.refl _, len_some L⟩, fun res s1 h => ?_⟩
            obtain ⟨rfl, rfl⟩ := h
            conv => whnf
            rw [k2]
            conv => whnf
            refine ⟨_, _, .refl, ?_⟩
            conv => whnf
            rw [succ_i hil (by omega)]
            exact ⟨_, by omega, i + 1, (delI H (keyC x.lt)), hil, hpl, rfl, rfl, .inr ⟨delL L (keyC x.lt), hI1, rfl⟩⟩
          · exact rfl
        · exact rfl
      refine bcase_intro (fun h3 => ?_) (fun h3 => ?_) <;> conv => whnf
      · have hI1 := hI.keep x.kp
        have hA := hI.gone x.kp
        have hpl : (H.filter (hasK x.kp)).length ≤ H.length := List.length_filter_le ..
        have hpl1 : (H.filter (hasK x.kp)).length ≤ i + 1 := by omega
        refine .data [.d (.list 3 (rowsK H)), .d (.list 3 (rowsK x.kp))] _ ⟨WkL.refl _, rfl, keepLatch55 H (by omega) x.kp (by omega)⟩ ?_
        conv => whnf
        refine .obj rfl ?_
        conv => whnf
        refine ⟨_, _, ⟨WkL.refl _, keepH L hI.1 (by omega) x.kp (by omega)⟩, fun res s1 h => ?_⟩
        obtain ⟨rfl, rfl⟩ := h
        conv => whnf
        rw [rowsK_len, rowsK_len, wrap_id (by omega) (by omega), ← hA, show (((L.filter fun k => !hasK x.kp k).length : Int) != ((L.filter fun k => !hasK x.kp k).length : Int)) = false by simp]
        conv => whnf
        refine .obj rfl ?_
        conv => whnf
        refine ⟨_, _, ⟨WkL.refl _, all27D (L.filter (hasK x.kp)) (by have := hI1.len; omega)⟩, fun res s1 h => ?_⟩
        obtain ⟨q, hq, hqs, rfl, rfl⟩ := h
        have hqe := hI1.all hq hqs
        rw [hqe]
        conv => whnf
        refine .scal [.d (.list 3 (rowsK (H.filter (hasK x.kp)))), .d (.list 3 (rowsK (H.filter (hasK x.kp))))] _ ⟨.refl _, rfl, same_self (H.filter (hasK x.kp)) (by omega)⟩ ?_
        conv => whnf
        have k1 : ((((L.filter (hasK x.kp))).length : Int) != ((rowsK (H.filter (hasK x.kp))).length : Int)) = false := by rw [rowsK_len, hI1.len]; simp
        refine .objg (fun _ => ?_) (fun h => absurd ?_ h)
        · conv => whnf
          refine ⟨_, _, ⟨WkL.refl _, len_some (L.filter (hasK x.kp))⟩, fun res s1 h => ?_⟩
          obtain ⟨rfl, rfl⟩ := h
          conv => whnf
          rw [k1]
          refine .objg (fun _ => ?_) (fun h => absurd ?_ h)
          · conv => whnf
            refine ⟨_, _, ⟨WkL.refl _, len_some L⟩, fun res s1 h => ?_⟩
            obtain ⟨rfl, rfl⟩ := h
            conv => whnf
            rw [k2]
            conv => whnf
            refine ⟨_, _, .refl, ?_⟩
            conv => whnf
            rw [succ_i hil (by omega)]
            exact ⟨_, by omega, i + 1, (H.filter (hasK x.kp)), hil, hpl1, rfl, rfl, .inr ⟨L.filter (hasK x.kp), hI1, rfl⟩⟩
          · exact rfl
        · exact rfl
      · refine .obj rfl ?_
        conv => whnf
        refine ⟨_, _, ⟨WkL.refl _, all27D L (by have := hI.len; omega)⟩, fun res s1 h => ?_⟩
        obtain ⟨q, hq, hqs, rfl, rfl⟩ := h
        have hqe := hI.all hq hqs
        rw [hqe]
        conv => whnf
        refine .scal [.d (.list 3 (rowsK H)), .d (.list 3 (rowsK H))] _ ⟨.refl _, rfl, same_self H (by omega)⟩ ?_
        conv => whnf
        have k1 : (((L).length : Int) != ((rowsK H).length : Int)) = false := by rw [rowsK_len, hI.len]; simp
        refine .objg (fun _ => ?_) (fun h => absurd ?_ h)
        · conv => whnf
          refine ⟨_, _, ⟨WkL.refl _, len_some L⟩, fun res s1 h => ?_⟩
          obtain ⟨rfl, rfl⟩ := h
          conv => whnf
          rw [k1]
          refine .objg (fun _ => ?_) (fun h => absurd ?_ h)
          · conv => whnf
            refine ⟨_, _, ⟨WkL.refl _, len_some L⟩, fun res s1 h => ?_⟩
            obtain ⟨rfl, rfl⟩ := h
            conv => whnf
            rw [k2]
            conv => whnf
            refine ⟨_, _, .refl, ?_⟩
            conv => whnf
            rw [succ_i hil (by omega)]
            exact ⟨_, by omega, i + 1, H, hil, by omega, rfl, rfl, .inr ⟨L, hI, rfl⟩⟩
          · exact rfl
        · exact rfl
  · rcases hs with ⟨rfl, rfl⟩ | ⟨L, hI, rfl⟩
    · have hget := get_none a
      have hhas := has_none a
      conv => whnf
      rw [hlen, decide_eq_false (show ¬ (i : Int) < (l.length : Int) by omega)]
      conv => whnf
      refine .obj rfl ?_
      conv => whnf
      refine ⟨_, _, ⟨WkL.refl _, hget⟩, fun res s1 h => ?_⟩
      obtain ⟨rfl, rfl⟩ := h
      conv => whnf
      refine StopG.rounds wk13 [] [4, 5, 7, 8, 9, 19, 20, 21, 22] (fun m env s => ∃ j : Nat, j ≤ ([] : List Kl).length ∧ m = ([] : List Kl).length - j ∧
          env = [(4, .ref (.g 0) 0), (5, .ref (.g 1) 0), (7, .d (.bool true)), (8, .ref (.g 2) 0), (9, .d (.list 3 (rowsK ([] : List Kl)))), (19, .ref (.g 3) 0), (20, .d (.bool false)), (21, .d (.bool (false))), (22, .d (.int .i64 (j : Int)))] ∧
          s = [(0, cC a), (1, cC b), (2, nilC), (3, .cells [.d (.int .i64 0), .d (.int .i64 0), .d (.int .i64 0)])]) rfl ?_ ?_
      · conv => whnf
        exact ⟨_, 0, Nat.zero_le _, rfl, rfl, rfl⟩
      rintro m env s ⟨j, hj, rfl, rfl, rfl⟩
      obtain rfl : j = 0 := by simpa using hj
      conv => whnf
      have hl := less28 a.1 a.2 b.1 b.2
      have hm := lessCall a.1 a.2 b.1 b.2
      have he := less_same (a.1, a.2, 0) (b.1, b.2, 0)
      unfold ahdB at he
      simp only at he
      rw [he] at hl
      generalize (bif decide (a.1 < b.1) then true else bif a.1 == b.1 then decide (a.2 < b.2) else false) = e at hl hm
      refine .read (.d (.bool false)) (fun _ => reads29N (c := 2) (by simp [nilC]) a) ?_
      conv => whnf
      refine .scal [calC a, calC b] _ (fun _ => ⟨.refl _, rfl, hl⟩) ?_
      conv => whnf
      refine .scal [calC a, calC b] _ (fun _ => ⟨.refl _, rfl, hm⟩) ?_
      conv => whnf
      exact ⟨congrArg (fun q => AV.d (DV.bool q)) (last_eq false e), rfl⟩
    · have hgot := hI.got a
      obtain ⟨g, hg⟩ : ∃ g : Kl, g = (getL L a).getD (0, 0, 0) := ⟨_, rfl⟩
      obtain ⟨is, his⟩ : ∃ c : Bool, c = (getL L a).isSome := ⟨_, rfl⟩
      rw [← hg, ← his] at hgot
      have hget := get_some L hI.1 a
      have hhas := has_some L hI.1 a
      rw [← hg, ← his] at hget
      rw [← his] at hhas
      conv => whnf
      rw [hlen, decide_eq_false (show ¬ (i : Int) < (l.length : Int) by omega)]
      conv => whnf
      refine .obj rfl ?_
      conv => whnf
      refine ⟨_, _, ⟨WkL.refl _, hget⟩, fun res s1 h => ?_⟩
      obtain ⟨rfl, rfl⟩ := h
      conv => whnf
      refine StopG.rounds wk13 [] [4, 5, 7, 8, 9, 19, 20, 21, 22] (fun m env s => ∃ j : Nat, j ≤ H.length ∧ m = H.length - j ∧
          env = [(4, .ref (.g 0) 0), (5, .ref (.g 1) 0), (7, .d (.bool true)), (8, .ref (.g 2) 0), (9, .d (.list 3 (rowsK H))), (19, .ref (.g 3) 0), (20, .d (.bool is)), (21, .d (.bool (gotB a g (H.take j)))), (22, .d (.int .i64 (j : Int)))] ∧
          s = [(0, cC a), (1, cC b), (2, .cells [.mp (.g 4)]), (3, .cells [.d (.int .i64 g.1), .d (.int .i64 g.2.1), .d (.int .i64 g.2.2)]), (4, .dmap (encL L))]) rfl ?_ ?_
      · conv => whnf
        exact ⟨_, 0, Nat.zero_le _, rfl, rfl, rfl⟩
      rintro m env s ⟨j, hj, rfl, rfl, rfl⟩
      conv => whnf
      refine bcase_intro (fun h => ?_) (fun h => ?_) <;> conv => whnf
      · have hjl := lt_of h
        rw [rowsK_len] at hjl
        obtain ⟨y, hy, _⟩ := at_i hjl
        have hsn : gotB a g (H.take (j + 1)) = bif (bif y.1 == a.1 then y.2.1 == a.2 else false) then sameK y g else gotB a g (H.take j) := by
          rw [List.take_add_one, hy]
          exact gotB_snoc a g _ y
        refine ⟨rowK y, ⟨by omega, row_i hy⟩, ?_⟩
        conv => whnf
        refine .scal [calV y.1 y.2.1, calV a.1 a.2] _ ⟨.refl _, rfl, sameCall _ _ _ _⟩ ?_
        conv => whnf
        refine bcase_intro (fun hg => ?_) (fun hg => ?_) <;> conv => whnf
        · rw [show (bif y.1 == a.1 then y.2.1 == a.2 else false) = true from hg] at hsn
          refine ⟨rowK y, ⟨by omega, row_i hy⟩, ?_⟩
          conv => whnf
          refine .scal [latV y.1 y.2.1 y.2.2, latV g.1 g.2.1 g.2.2] _ ⟨.refl _, rfl, sameLatch _ _ _ _ _ _⟩ ?_
          conv => whnf
          rw [succ_i hjl (by omega)]
          exact ⟨_, by omega, j + 1, hjl, rfl, by rw [hsn]; rfl, rfl⟩
        · rw [show (bif y.1 == a.1 then y.2.1 == a.2 else false) = false from hg] at hsn
          rw [succ_i hjl (by omega)]
          exact ⟨_, by omega, j + 1, hjl, rfl, by rw [hsn]; rfl, rfl⟩
      have hjl := ge_of h
      rw [rowsK_len] at hjl
      rw [List.take_of_length_le hjl, hgot]
      have hl := less28 a.1 a.2 b.1 b.2
      have hm := lessCall a.1 a.2 b.1 b.2
      have he := less_same (a.1, a.2, 0) (b.1, b.2, 0)
      unfold ahdB at he
      simp only at he
      rw [he] at hl
      generalize (bif decide (a.1 < b.1) then true else bif a.1 == b.1 then decide (a.2 < b.2) else false) = e at hl hm
      refine .read (.d (.bool is)) (fun _ => by rw [his]; exact reads29 (c := 2) (m := 4) (by simp) (by simp) hI.1 a) ?_
      conv => whnf
      refine .scal [calC a, calC b] _ (fun _ => ⟨.refl _, rfl, hl⟩) ?_
      conv => whnf
      refine .scal [calC a, calC b] _ (fun _ => ⟨.refl _, rfl, hm⟩) ?_
      conv => whnf
      exact ⟨congrArg (fun q => AV.d (DV.bool q)) (last_eq is e), rfl⟩
end Go.Proofs.Ytkenimmellonjaa
/- Seat r2: what is kept: what comes in. -/
namespace Go.Proofs.Ytkenimmellonjaa
open Go.Pv Go.RowKit
theorem dat_lat {n : Nat} {r : List DV} (h : Dat T (n + 3) 38 r) : ∃ k : Int × Int × Int, r = rowK k := by
  obtain ⟨_, _, rfl, ⟨_, _, rfl, ⟨fl, _, _, rfl⟩, _, _, rfl, ⟨dr, _, _, rfl⟩, rfl⟩, _, _, rfl, ⟨gn, _, _, rfl⟩, rfl⟩ := h
  exact ⟨(fl, dr, gn), rfl⟩
theorem dat_lats {n : Nat} {r : List DV} (h : Dat T (n + 4) 30 r) : ∃ (x : DV) (l : List (Int × Int × Int)), r = [x] ∧ l.length ≤ maxLen ∧ WkD x (.list 3 (rowsK l)) := by
  rcases h with h | ⟨rows, h1, h2, h⟩
  · exact ⟨.nil, [], h, by simp, WkD.nil 3⟩
  · have : ∃ l : List (Int × Int × Int), rows = rowsK l := by
      clear h1 h
      induction rows with
      | nil => exact ⟨[], rfl⟩
      | cons r rs ih =>
        obtain ⟨l, h3⟩ := ih fun x hx => h2 x (List.mem_cons_of_mem _ hx)
        obtain ⟨b, h4⟩ := dat_lat (h2 r (List.mem_cons_self ..))
        exact ⟨b :: l, by rw [h3, h4]; rfl⟩
    obtain ⟨l, rfl⟩ := this
    exact ⟨_, l, h, by simpa [rowsK] using h1, WkD.refl _⟩
theorem arg_lats {n : Nat} {x : AV} (h : ArgD T (n + 5) 30 x) : ∃ l : List (Int × Int × Int), l.length ≤ maxLen ∧ ∀ {r r' : List AV}, WkL r r' → WkL (x :: r) (.d (.list 3 (rowsK l)) :: r') := by
  obtain ⟨y, h, rfl⟩ := h
  obtain ⟨z, l, hz, hl, hw⟩ := dat_lats h
  cases hz
  exact ⟨l, hl, fun h => .w hw h⟩
end Go.Proofs.Ytkenimmellonjaa
