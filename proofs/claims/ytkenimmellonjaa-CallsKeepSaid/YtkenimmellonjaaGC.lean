/- The seat's texts, part 3: what single functions of the program compute; no statement of its own. -/
import Derived.Test.YtkenimmellonjaaGB
import Derived.Test.YtkenimmellonjaaGA
/- Seat r2: sets of calls: single functions. -/
namespace Go.Proofs.Ytkenimmellonjaa
open Go.Pv Go.RowKit
abbrev latK (k : Kl) : AV := .agg [.d (.int .i64 k.1), .d (.int .i64 k.2.1), .d (.int .i64 k.2.2)]
abbrev calC (c : Int × Int) : AV := .agg [.d (.int .i64 c.1), .d (.int .i64 c.2)]
def kcsC : Bool × List IntKind := (true, [.i64, .i64])
theorem dxC_inj : ∀ a b, dxC a = dxC b → a = b := fun a b h => by
  simp [dxC] at h
  exact Prod.ext h.1 h.2
theorem dxC_good (c : Int × Int) : kgood kcsC (dxC c) = true := by simp [kgood, kcsC, dxC, kmatch]
theorem flat36 : flatK T 36 = some kcsC := by kernel_rfl
theorem stood36 : Try.prog.stoodInHeld 36 = false := by kernel_rfl
def setN : List (Nat × AB) := [(0, .cells [.d (.raw (.map .none))])]
def setS (l : List Kl) : List (Nat × AB) := [(0, .cells [.mp (.g 1)]), (1, .dmap (encL l))]
abbrev getL (l : List Kl) (c : Int × Int) : Option Kl := aget keyC l c
abbrev putL (l : List Kl) (k : Kl) : List Kl := aput keyC l k
abbrev delL (l : List Kl) (c : Int × Int) : List Kl := adel keyC l c
abbrev Ks (l : List Kl) : Prop := (l.map keyC).Nodup
theorem good_encL (l : List Kl) : ∀ e ∈ encL l, kgood kcsC e.1 = true := good_enc dxC_good l
theorem dget_L {l : List Kl} (hn : Ks l) (c : Int × Int) : dget (encL l) (dxC c) ((getL l c).map dxK) := dget_enc (ev := dxK) dxC_inj hn c
theorem encL_len (l : List Kl) : (encL l).length = l.length := by simp [encL, encM]
set_option maxRecDepth 100000 in
theorem has_none (c : Int × Int) : Contract Try.prog G0 29 [.ref (.g 0) 0, calC c] setN (fun r t => r = .d (.bool false) ∧ t = setN) := by
  refine run29 1 [] rfl rfl ?_
  conv => whnf
  refine ⟨dxC_good c, ?_⟩
  conv => whnf
  exact ⟨rfl, rfl⟩
set_option maxRecDepth 100000 in
theorem has_some (l : List Kl) (hn : Ks l) (c : Int × Int) : Contract Try.prog G0 29 [.ref (.g 0) 0, calC c] (setS l) (fun r t => r = .d (.bool (getL l c).isSome) ∧ t = setS l) := by
  refine run29 2 [] rfl rfl ?_
  conv => whnf
  have hg := dget_L hn c
  cases ha : getL l c with
  | none =>
    rw [ha] at hg
    refine ⟨stood36, .none, ⟨dxC_good c, good_encL l, hg⟩, ?_⟩
    conv => whnf
    exact ⟨rfl, rfl⟩
  | some k =>
    rw [ha] at hg
    refine ⟨stood36, .some (dxK k), ⟨dxC_good c, good_encL l, hg⟩, ?_⟩
    conv => whnf
    exact ⟨rfl, rfl⟩
set_option maxRecDepth 100000 in
theorem get_some (l : List Kl) (hn : Ks l) (c : Int × Int) : Contract Try.prog G0 56 [.ref (.g 0) 0, calC c] (setS l) (fun r t => r = .tup [latK ((getL l c).getD (0, 0, 0)), .d (.bool (getL l c).isSome)] ∧ t = setS l) := by
  refine run56 2 [] rfl rfl ?_
  conv => whnf
  have hg := dget_L hn c
  cases ha : getL l c with
  | none =>
    rw [ha] at hg
    refine ⟨stood36, .none, ⟨dxC_good c, good_encL l, hg⟩, ?_⟩
    conv => whnf
    exact ⟨rfl, rfl⟩
  | some k =>
    rw [ha] at hg
    refine ⟨stood36, .some (dxK k), ⟨dxC_good c, good_encL l, hg⟩, ?_⟩
    conv => whnf
    exact ⟨rfl, rfl⟩
set_option maxRecDepth 100000 in
theorem get_none (c : Int × Int) : Contract Try.prog G0 56 [.ref (.g 0) 0, calC c] setN (fun r t => r = .tup [latK (0, 0, 0), .d (.bool false)] ∧ t = setN) := by
  refine run56 1 [] rfl rfl ?_
  conv => whnf
  refine ⟨dxC_good c, ?_⟩
  conv => whnf
  exact ⟨rfl, rfl⟩
set_option maxRecDepth 100000 in
theorem len_none : Contract Try.prog G0 46 [.ref (.g 0) 0] setN (fun r t => r = .d (.int .i64 0) ∧ t = setN) := by
  refine run46 1 [] rfl rfl ?_
  conv => whnf
  exact ⟨rfl, rfl⟩
set_option maxRecDepth 100000 in
theorem len_some (l : List Kl) : Contract Try.prog G0 46 [.ref (.g 0) 0] (setS l) (fun r t => r = .d (.int .i64 (l.length : Int)) ∧ t = setS l) := by
  refine run46 2 [] rfl rfl ?_
  conv => whnf
  refine ⟨?_, rfl⟩
  rw [encL_len]
set_option maxRecDepth 100000 in
theorem put_none (k : Kl) : Contract Try.prog G0 26 [.ref (.g 0) 0, latK k] setN (fun r t => r = .d (.bool true) ∧ t = setS [k]) := by
  refine run26 1 [] rfl rfl ?_
  conv => whnf
  refine .obj rfl ?_
  conv => whnf
  refine ⟨_, _, ⟨WkL.refl _, has_none (keyC k)⟩, fun res s1 h => ?_⟩
  obtain ⟨rfl, rfl⟩ := h
  conv => whnf
  refine ⟨stood36, encL [k], ⟨dxC_good (keyC k), fun e he => (by cases he), .inl ⟨fun e he => (by cases he), rfl⟩⟩, ?_⟩
  conv => whnf
  exact ⟨rfl, rfl⟩
set_option maxRecDepth 100000 in
theorem put_some (l : List Kl) (hn : Ks l) (hne : l ≠ []) (k : Kl) : Contract Try.prog G0 26 [.ref (.g 0) 0, latK k] (setS l) (fun r t => r = .d (.bool !(getL l (keyC k)).isSome) ∧ t = setS (putL l k)) := by
  refine run26 2 [] rfl rfl ?_
  conv => whnf
  refine .obj rfl ?_
  conv => whnf
  refine ⟨_, _, ⟨WkL.refl _, has_some l hn (keyC k)⟩, fun res s1 h => ?_⟩
  obtain ⟨rfl, rfl⟩ := h
  conv => whnf
  refine bcase_intro (fun h => ?_) (fun h => ?_)
  · exfalso
    rw [encL_len] at h
    have h2 : ((l.length : Int) == 0) = true := h
    exact hne (by simpa using h2)
  conv => whnf
  refine ⟨stood36, encL (putL l k), ⟨dxC_good (keyC k), good_encL l, dput_enc (ev := dxK) dxC_inj hn k⟩, ?_⟩
  conv => whnf
  exact ⟨rfl, rfl⟩
set_option maxRecDepth 100000 in
/-- .. onto a set that has been emptied: a new map. -/
theorem put_nil (k : Kl) : Contract Try.prog G0 26 [.ref (.g 0) 0, latK k] (setS []) (fun r t => r = .d (.bool true) ∧ ∃ d, t = [(0, .cells [.mp (.g 2)]), (1, .dmap d), (2, .dmap (encL [k]))]) := by
  refine run26 2 [] rfl rfl ?_
  conv => whnf
  refine .obj rfl ?_
  conv => whnf
  refine ⟨_, _, ⟨WkL.refl _, has_some [] .nil (keyC k)⟩, fun res s1 h => ?_⟩
  obtain ⟨rfl, rfl⟩ := h
  conv => whnf
  refine ⟨stood36, encL [k], ⟨dxC_good (keyC k), fun e he => (by cases he), .inl ⟨fun e he => (by cases he), rfl⟩⟩, ?_⟩
  conv => whnf
  exact ⟨rfl, _, rfl⟩
set_option maxRecDepth 100000 in
theorem del_some (l : List Kl) (hn : Ks l) (c : Int × Int) : Contract Try.prog G0 54 [.ref (.g 0) 0, calC c] (setS l) (fun r t => r = .d (.bool (getL l c).isSome) ∧ t = setS (delL l c)) := by
  refine run54 2 [] rfl rfl ?_
  conv => whnf
  refine .obj rfl ?_
  conv => whnf
  refine ⟨_, _, ⟨WkL.refl _, has_some l hn c⟩, fun res s1 h => ?_⟩
  obtain ⟨rfl, rfl⟩ := h
  conv => whnf
  refine ⟨stood36, encL (delL l c), ⟨dxC_good c, good_encL l, ddel_enc (ev := dxK) dxC_inj hn c⟩, ?_⟩
  conv => whnf
  exact ⟨rfl, rfl⟩
set_option maxRecDepth 100000 in
theorem values74 (l : List Kl) : Contract Try.prog G0 74 [.mp (.g 0)] [(0, .dmap (encL l))] (fun r t => r = .fn 104 [.ref (.g 1) 0] ∧ t = [(0, .dmap (encL l)), (1, .cells [.mp (.g 0)])]) := by
  refine run74 1 [] rfl rfl ?_
  conv => whnf
  exact ⟨rfl, rfl⟩
end Go.Proofs.Ytkenimmellonjaa
/- Seat r2: all latches of a set, in order. -/
namespace Go.Proofs.Ytkenimmellonjaa
open Go.Pv Go.RowKit
/-- Latches that stand in order, none ahead of what is less. -/
def Srd (q : List Kl) : Prop := q.Pairwise fun a b => ¬ cmpK b a < 0
abbrev c1 : AB := .cells [.mp (.g 1)]
set_option maxRecDepth 100000 in
theorem sorted73 (l : List Kl) (hl : l.length ≤ 100000) : Contract Try.prog G0 73 [.fn 104 [.ref (.g 0) 0], .fn 75 []] [(0, c1), (1, .dmap (encL l))] (fun r t => ∃ q : List Kl, q.Perm l ∧ Srd q ∧
    ((q = [] ∧ r = .d .nil ∧ t = [(0, c1), (1, .dmap (encL l))]) ∨ ∃ c, q.length ≤ c ∧ r = .slc (.g 2) 3 0 q.length c ∧ t = [(0, c1), (1, .dmap (encL l)), (2, .row 3 (rowsK q))])) := by
  refine run73 2 [] rfl rfl ?_
  conv => whnf
  refine .obj rfl ?_
  conv => whnf
  refine ⟨_, _, ⟨WkL.refl _, collectC l hl⟩, fun res s1 h => ?_⟩
  obtain ⟨ss, hp, ⟨rfl, rfl, rfl⟩ | ⟨c, hc, rfl, rfl⟩⟩ := h
  · conv => whnf
    refine .obj rfl ?_
    conv => whnf
    refine ⟨_, _, ⟨WkL.refl _, sort103_nil⟩, fun res s1 h => ?_⟩
    obtain ⟨rfl, rfl⟩ := h
    conv => whnf
    exact ⟨[], hp, .nil, .inl ⟨rfl, rfl, rfl⟩⟩
  · conv => whnf
    refine .obj rfl ?_
    conv => whnf
    refine ⟨_, _, ⟨WkL.refl _, sort103 ss (by rw [hp.length_eq]; exact hl) c⟩, fun res s1 h => ?_⟩
    obtain ⟨rfl, q, hq, hs, rfl⟩ := h
    conv => whnf
    exact ⟨q, hq.trans hp, hs, .inr ⟨c, by rw [hq.length_eq]; exact hc, by rw [hq.length_eq], rfl⟩⟩
set_option maxRecDepth 100000 in
theorem all27 (l : List Kl) (hl : l.length ≤ 100000) : Contract Try.prog G0 27 [.ref (.g 0) 0] (setS l) (fun r t => ∃ q : List Kl, q.Perm l ∧ Srd q ∧
    ((q = [] ∧ r = .d .nil ∧ t = setS l) ∨ ∃ c, q.length ≤ c ∧ r = .slc (.g 2) 3 0 q.length c ∧ t = setS l ++ [(2, .row 3 (rowsK q))])) := by
  refine run27 2 [] rfl rfl ?_
  conv => whnf
  refine .obj rfl ?_
  conv => whnf
  refine ⟨_, _, ⟨WkL.refl _, values74 l⟩, fun res s1 h => ?_⟩
  obtain ⟨rfl, rfl⟩ := h
  conv => whnf
  refine .obj rfl ?_
  conv => whnf
  refine ⟨_, _, ⟨WkL.refl _, sorted73 l hl⟩, fun res s1 h => ?_⟩
  obtain ⟨q, hq, hs, ⟨rfl, rfl, rfl⟩ | ⟨c, hc, rfl, rfl⟩⟩ := h
  · conv => whnf
    exact ⟨[], hq, hs, .inl ⟨rfl, rfl, rfl⟩⟩
  · conv => whnf
    exact ⟨q, hq, hs, .inr ⟨c, hc, rfl, rfl⟩⟩
end Go.Proofs.Ytkenimmellonjaa
/- Seat r2: cmp.Compare, cmp.Or; calls held against each other. -/
namespace Go.Proofs.Ytkenimmellonjaa
open Go.Pv Go.RowKit Go.Shelf
set_option maxRecDepth 100000 in
theorem isNaN (x : Int) : Contract Try.prog G0 121 [.d (.int .i64 x)] [] (fun r t => r = .d (.bool false) ∧ t = []) := by
  refine run121 0 [] rfl rfl ?_
  conv => whnf
  exact ⟨rd_bool (by simp), rfl⟩
def cmpI (a b : Int) : Int := bif decide (a < b) then -1 else bif decide (a > b) then 1 else 0
set_option maxRecDepth 100000 in
theorem compareI (a b : Int) : Contract Try.prog G0 95 [.d (.int .i64 a), .d (.int .i64 b)] [] (fun r t => r = .d (.int .i64 (cmpI a b)) ∧ t = []) := by
  refine run95 0 [] rfl rfl ?_
  conv => whnf
  refine .scal [.d (.int .i64 a)] _ ⟨.refl _, rfl, isNaN a⟩ ?_
  conv => whnf
  refine .scal [.d (.int .i64 b)] _ ⟨.refl _, rfl, isNaN b⟩ ?_
  conv => whnf
  refine bcase_intro (fun h => ?_) (fun h => ?_) <;> conv => whnf
  · exact ⟨rd_int (by rw [cmpI, h]; rfl), rfl⟩
  refine bcase_intro (fun h2 => ?_) (fun h2 => ?_) <;> conv => whnf
  · exact ⟨rd_int (by rw [cmpI, h, h2]; rfl), rfl⟩
  · exact ⟨rd_int (by rw [cmpI, h, h2]; rfl), rfl⟩
def orI : List Int → Int
  | [] => 0
  | x :: r => bif x != 0 then x else orI r
set_option maxRecDepth 100000 in
theorem orC (l : List Int) (hl : l.length ≤ 1000) : Contract Try.prog G0 94 [.d (.list 1 (rowsI l))] [] (fun r t => r = .d (.int .i64 (orI l)) ∧ t = []) := by
  have hlen := rowsI_len l
  refine run94 0 [] rfl rfl ?_
  conv => whnf
  refine StopG.rounds wk94 [] [3, 6, 7, 8] (fun m env s => ∃ i : Nat, i ≤ l.length ∧ m = l.length - i ∧ orI l = orI (l.drop i) ∧
    env = [(3, .d (.int .i64 0)), (6, .d (.list 1 (rowsI l))), (7, .d (.int .i64 ((rowsI l).length : Int))), (8, .d (.int .i64 (i : Int)))] ∧ s = []) rfl ?_ ?_
  · conv => whnf
    exact ⟨_, 0, Nat.zero_le _, rfl, rfl, rfl, rfl⟩
  rintro m env s ⟨i, hi, rfl, ho, rfl, rfl⟩
  conv => whnf
  refine bcase_intro (fun h => ?_) (fun h => ?_) <;> conv => whnf
  · have h := lt_of h
    rw [hlen] at h
    obtain ⟨x, hx, hdrop⟩ := at_i h
    refine ⟨rowI x, ⟨by omega, row_i hx⟩, ?_⟩
    conv => whnf
    rw [hdrop, orI] at ho
    refine bcase_intro (fun h2 => ?_) (fun h2 => ?_) <;> conv => whnf
    · rw [h2] at ho
      exact ⟨rd_int ho.symm, rfl⟩
    · rw [h2] at ho
      rw [succ_i h (by omega)]
      exact ⟨_, by omega, i + 1, h, rfl, ho, rfl, rfl⟩
  · have h := ge_of h
    rw [hlen] at h
    rw [show l.drop i = [] from List.drop_of_length_le h] at ho
    exact ⟨rd_int ho.symm, rfl⟩
set_option maxRecDepth 100000 in
theorem cmp76 (a b a' b' : Int) : Contract Try.prog G0 76 [calV a b, calV a' b'] [] (fun r t => r = .d (.int .i64 (orI [cmpI a a', cmpI b b'])) ∧ t = []) := by
  refine run76 0 [] rfl rfl ?_
  conv => whnf
  refine .scal [.d (.int .i64 a), .d (.int .i64 a')] _ ⟨.refl _, rfl, compareI a a'⟩ ?_
  conv => whnf
  refine .scal [.d (.int .i64 b), .d (.int .i64 b')] _ ⟨.refl _, rfl, compareI b b'⟩ ?_
  conv => whnf
  refine .scal [.d (.list 1 (rowsI [cmpI a a', cmpI b b']))] _ ⟨.refl _, rfl, orC _ (by simp)⟩ ?_
  conv => whnf
  exact ⟨rfl, rfl⟩
set_option maxRecDepth 100000 in
theorem less28 (a b a' b' : Int) : Contract Try.prog G0 28 [calV a b, calV a' b'] [] (fun r t => r = .d (.bool (decide (orI [cmpI a a', cmpI b b'] < 0))) ∧ t = []) := by
  refine run28 0 [] rfl rfl ?_
  conv => whnf
  refine .scal [calV a b, calV a' b'] _ ⟨.refl _, rfl, cmp76 a b a' b'⟩ ?_
  conv => whnf
  exact ⟨rfl, rfl⟩
end Go.Proofs.Ytkenimmellonjaa
/- Seat r2: lists of latches held against each other. -/
namespace Go.Proofs.Ytkenimmellonjaa
open Go.Pv Go.RowKit Go.Shelf
theorem not_t {b : Bool} (h : (!b) = true) : b = false := by cases b <;> simp_all
theorem not_f {b : Bool} (h : (!b) = false) : b = true := by cases b <;> simp_all
def eqLs {α : Type} (f : α → α → Bool) : List α → List α → Bool
  | [], [] => true
  | x :: a, y :: b => bif f x y then eqLs f a b else false
  | _, _ => false
theorem eqLs_len {α : Type} {f : α → α → Bool} : ∀ {a b : List α}, a.length ≠ b.length → eqLs f a b = false
  | [], [], h => absurd rfl h
  | [], _ :: _, _ => rfl
  | _ :: _, [], _ => rfl
  | x :: a, y :: b, h => by
    show (bif f x y then eqLs f a b else false) = false
    rw [eqLs_len (a := a) (b := b) fun e => h (by simp [e])]
    cases f x y <;> rfl
theorem eqLs_refl {α : Type} {f : α → α → Bool} : ∀ {a : List α}, (∀ x ∈ a, f x x = true) → eqLs f a a = true
  | [], _ => rfl
  | x :: a, h => by
    show (bif f x x then eqLs f a a else false) = true
    rw [h x (List.mem_cons_self ..), eqLs_refl fun y hy => h y (List.mem_cons_of_mem _ hy)]
    rfl
theorem eqLs_ext {α : Type} {f g : α → α → Bool} (h : ∀ x y, f x y = g x y) : ∀ (a b : List α), eqLs f a b = eqLs g a b
  | [], [] => rfl
  | [], _ :: _ => rfl
  | _ :: _, [] => rfl
  | x :: a, y :: b => by
    show (bif f x y then eqLs f a b else false) = (bif g x y then eqLs g a b else false)
    rw [h, eqLs_ext h a b]
set_option maxRecDepth 100000 in
theorem sameLatchs30 (a b : List (Int × Int × Int)) (ha : a.length ≤ 4611686018427387904) : Contract Try.prog G0 30 [.d (.list 3 (rowsK a)), .d (.list 3 (rowsK b))] [] (fun r t => r = .d (.bool (eqLs sameK a b)) ∧ t = []) := by
  have hlen := rowsK_len a
  have hlen2 := rowsK_len b
  refine run30 0 [] rfl rfl ?_
  conv => whnf
  refine bcase_intro (fun h => ?_) (fun h => ?_) <;> conv => whnf
  · rw [hlen, hlen2] at h
    have h2 : a.length ≠ b.length := fun e => by rw [e] at h; simp at h
    exact ⟨rd_bool (eqLs_len h2).symm, rfl⟩
  have hab : a.length = b.length := by
    rw [hlen, hlen2] at h
    have : (a.length : Int) = (b.length : Int) := by simpa using h
    omega
  refine StopG.rounds wk30 [] [0, 1, 5] (fun m env s => ∃ i : Nat, i ≤ a.length ∧ m = a.length - i ∧ eqLs sameK a b = eqLs sameK (a.drop i) (b.drop i) ∧
    env = [(0, .d (.list 3 (rowsK a))), (1, .d (.list 3 (rowsK b))), (5, .d (.int .i64 (i : Int)))] ∧ s = []) rfl ?_ ?_
  · conv => whnf
    exact ⟨_, 0, Nat.zero_le _, rfl, rfl, rfl, rfl⟩
  rintro m env s ⟨i, hi, rfl, heq, rfl, rfl⟩
  conv => whnf
  refine bcase_intro (fun h => ?_) (fun h => ?_) <;> conv => whnf
  · have h := lt_of h
    rw [hlen] at h
    obtain ⟨x, hx, hdrop⟩ := at_i h
    obtain ⟨y, hy, hdrop2⟩ := at_i (l := b) (i := i) (by omega)
    rw [hdrop, hdrop2, eqLs] at heq
    refine ⟨rowK x, ⟨by omega, row_i hx⟩, ?_⟩
    conv => whnf
    refine ⟨rowK y, ⟨by omega, row_i hy⟩, ?_⟩
    conv => whnf
    refine .scal [latV x.1 x.2.1 x.2.2, latV y.1 y.2.1 y.2.2] _ ⟨.refl _, rfl, sameLatch _ _ _ _ _ _⟩ ?_
    conv => whnf
    refine bcase_intro (fun h2 => ?_) (fun h2 => ?_) <;> conv => whnf
    · have h2 : sameK x y = false := not_t h2
      rw [h2] at heq
      exact ⟨rd_bool heq.symm, rfl⟩
    · have h2 : sameK x y = true := not_f h2
      rw [h2] at heq
      rw [succ_i h ha]
      exact ⟨_, by omega, i + 1, h, rfl, heq, rfl, rfl⟩
  · have h := ge_of h
    rw [hlen] at h
    rw [List.drop_of_length_le h, List.drop_of_length_le (by omega)] at heq
    exact ⟨rd_bool heq.symm, rfl⟩
end Go.Proofs.Ytkenimmellonjaa
/- Seat r2: sets of calls: the first look. -/
namespace Go.Proofs.Ytkenimmellonjaa
open Go.Pv Go.RowKit
set_option maxRecDepth 100000 in
theorem first25 : Contract Try.prog G0 25 [] [] (fun r t => r = .d (.bool true) ∧ t = []) := by
  have p2 := put_some [(1, 1, 1)] (by decide) (by simp) (1, 1, 1)
  have e1 : getL [(1, 1, 1)] (keyC (1, 1, 1)) = some (1, 1, 1) := by decide
  have e2 : putL [(1, 1, 1)] (1, 1, 1) = [(1, 1, 1)] := by decide
  rw [e1, e2] at p2
  refine run25 0 [] rfl rfl ?_
  conv => whnf
  refine .obj rfl ?_
  conv => whnf
  refine ⟨_, _, ⟨WkL.refl _, put_none (1, 1, 1)⟩, fun res s1 h => ?_⟩
  obtain ⟨rfl, rfl⟩ := h
  conv => whnf
  refine .objg (fun _ => ?_) (fun h => absurd ?_ h)
  · conv => whnf
    refine ⟨_, _, ⟨WkL.refl _, p2⟩, fun res s1 h => ?_⟩
    obtain ⟨rfl, rfl⟩ := h
    conv => whnf
    refine .objg (fun _ => ?_) (fun h => absurd ?_ h)
    · conv => whnf
      refine ⟨_, _, ⟨WkL.refl _, len_some [(1, 1, 1)]⟩, fun res s1 h => ?_⟩
      obtain ⟨rfl, rfl⟩ := h
      conv => whnf
      exact ⟨rfl, rfl⟩
    · simp [HG, lit, rfind]
  · simp [HG, lit, rfind]
end Go.Proofs.Ytkenimmellonjaa
/- Seat r2: sets of calls: the plain laws. -/
namespace Go.Proofs.Ytkenimmellonjaa
open Go.Pv
def puts (ks : List Kl) : List Kl := ks.foldl putL []
theorem puts_snoc (ks : List Kl) (k : Kl) : puts (ks ++ [k]) = putL (puts ks) k := by simp [puts]
theorem fold_ks : ∀ (ks l : List Kl), Ks l → Ks (ks.foldl putL l)
  | [], _, h => h
  | k :: r, l, h => fold_ks r (putL l k) (aput_nodup h k)
theorem puts_ks (ks : List Kl) : Ks (puts ks) := fold_ks ks [] .nil
theorem putL_mem {l : List Kl} {k x : Kl} (h : x ∈ putL l k) : x = k ∨ x ∈ l := by
  rcases aput_mem h with h | ⟨h, _⟩ | h
  · exact .inl h
  · exact .inr h
  · exact .inr h
theorem fold_mem : ∀ (ks l : List Kl) {x : Kl}, x ∈ ks.foldl putL l → x ∈ ks ∨ x ∈ l
  | [], _, _, h => .inr h
  | k :: r, l, x, h => by
    rcases fold_mem r (putL l k) h with h | h
    · exact .inl (List.mem_cons_of_mem _ h)
    · rcases putL_mem h with rfl | h
      · exact .inl (List.mem_cons_self ..)
      · exact .inr h
theorem puts_mem {ks : List Kl} {x : Kl} (h : x ∈ puts ks) : x ∈ ks := by
  rcases fold_mem ks [] h with h | h
  · exact h
  · cases h
theorem putL_key {l : List Kl} {k : Kl} {c : Int × Int} (h : c = keyC k ∨ c ∈ l.map keyC) : c ∈ (putL l k).map keyC := by
  show c ∈ (aput keyC l k).map keyC
  rw [aput_keys]
  split
  · rename_i hk
    rcases h with rfl | h
    · exact hk
    · exact h
  · rcases h with rfl | h
    · exact List.mem_append_right _ (List.mem_singleton.2 rfl)
    · exact List.mem_append_left _ h
theorem fold_key : ∀ (ks l : List Kl) {c : Int × Int}, (c ∈ ks.map keyC ∨ c ∈ l.map keyC) → c ∈ (ks.foldl putL l).map keyC
  | [], _, _, h => by
    rcases h with h | h
    · cases h
    · exact h
  | k :: r, l, c, h => by
    refine fold_key r (putL l k) ?_
    rcases h with h | h
    · rcases List.mem_cons.1 h with h | h
      · exact .inr (putL_key (.inl h))
      · exact .inl h
    · exact .inr (putL_key (.inr h))
theorem puts_key {ks : List Kl} {k : Kl} (h : k ∈ ks) : keyC k ∈ (puts ks).map keyC := fold_key ks [] (.inl (List.mem_map_of_mem h))
theorem puts_ne {ks : List Kl} (h : ks ≠ []) : puts ks ≠ [] := by
  intro e
  cases ks with
  | nil => exact h rfl
  | cons k r =>
    have := puts_key (ks := k :: r) (List.mem_cons_self ..)
    rw [e] at this
    cases this
theorem putL_len (l : List Kl) (k : Kl) : (putL l k).length ≤ l.length + 1 := by
  have : ((aput keyC l k).map keyC).length ≤ l.length + 1 := by
    rw [aput_keys]
    split
    · simp
    · simp
  simpa using this
theorem fold_len : ∀ (ks l : List Kl), (ks.foldl putL l).length ≤ l.length + ks.length
  | [], _ => by simp
  | k :: r, l => by
    have h1 := fold_len r (putL l k)
    have h2 := putL_len l k
    simp only [List.foldl_cons, List.length_cons]
    omega
theorem puts_len (ks : List Kl) : (puts ks).length ≤ ks.length := by
  have := fold_len ks []
  simpa [puts] using this
/-- Latches of one time alone: what is in the set is what was put. -/
theorem puts_iff {ks : List Kl} (h : ∀ k ∈ ks, k.2.2 = 3) (x : Kl) : x ∈ puts ks ↔ x ∈ ks := by
  refine ⟨puts_mem, fun hx => ?_⟩
  obtain ⟨y, hy, he⟩ := List.mem_map.1 (puts_key hx)
  have h1 := h y (puts_mem hy)
  have h2 := h x hx
  have : y = x := by
    simp only [keyC, Prod.mk.injEq] at he
    exact Prod.ext he.1 (Prod.ext he.2 (h1.trans h2.symm))
  exact this ▸ hy
def ltC (a b : Kl) : Prop := a.1 < b.1 ∨ (a.1 = b.1 ∧ a.2.1 < b.2.1)
theorem srd_lt {q : List Kl} (h : Srd q) (hk : Ks q) : q.Pairwise ltC := by
  have h2 : q.Pairwise fun a b => keyC a ≠ keyC b := List.pairwise_map.1 hk
  refine (h.and h2).imp fun {a b} ⟨h1, h2⟩ => ?_
  rw [cmpK_lt] at h1
  unfold ltC
  have h3 : ¬ (a.1 = b.1 ∧ a.2.1 = b.2.1) := fun e => h2 (Prod.ext e.1 e.2)
  omega
theorem uniqC : ∀ {a b : List Kl}, a.Pairwise ltC → b.Pairwise ltC → (∀ x, x ∈ a ↔ x ∈ b) → a = b
  | [], [], _, _, _ => rfl
  | [], y :: b, _, _, h => absurd ((h y).2 (List.mem_cons_self ..)) (by simp)
  | x :: a, [], _, _, h => absurd ((h x).1 (List.mem_cons_self ..)) (by simp)
  | x :: a, y :: b, ha, hb, h => by
    have irr : ∀ z : Kl, ¬ ltC z z := fun z hz => by unfold ltC at hz; omega
    have asm : ∀ {u v : Kl}, ltC u v → ltC v u → False := fun {u v} h1 h2 => by unfold ltC at *; omega
    obtain ⟨ha1, ha2⟩ := List.pairwise_cons.1 ha
    obtain ⟨hb1, hb2⟩ := List.pairwise_cons.1 hb
    have hxy : x = y := by
      rcases List.mem_cons.1 ((h x).1 (List.mem_cons_self ..)) with e | hx
      · exact e
      rcases List.mem_cons.1 ((h y).2 (List.mem_cons_self ..)) with e | hy
      · exact e.symm
      exact (asm (ha1 y hy) (hb1 x hx)).elim
    subst hxy
    refine congrArg (x :: ·) (uniqC ha2 hb2 fun z => ⟨fun hz => ?_, fun hz => ?_⟩)
    · rcases List.mem_cons.1 ((h z).1 (List.mem_cons_of_mem _ hz)) with rfl | h1
      · exact (irr _ (ha1 _ hz)).elim
      · exact h1
    · rcases List.mem_cons.1 ((h z).2 (List.mem_cons_of_mem _ hz)) with rfl | h1
      · exact (irr _ (hb1 _ hz)).elim
      · exact h1
theorem perm_ks {q l : List Kl} (h : q.Perm l) (hk : Ks l) : Ks q := (h.map keyC).nodup_iff.2 hk
theorem getL_has {l : List Kl} {c : Int × Int} (h : c ∈ l.map keyC) : (getL l c).isSome = true := by
  cases hg : getL l c with
  | some _ => rfl
  | none =>
    obtain ⟨x, hx, he⟩ := List.mem_map.1 h
    exact absurd he (aget_none hg x hx)
theorem getL_key {l : List Kl} {c : Int × Int} : (getL l c).isSome = true ↔ c ∈ l.map keyC := by
  refine ⟨fun h => ?_, getL_has⟩
  cases hg : getL l c with
  | none => rw [hg] at h; cases h
  | some x =>
    obtain ⟨h1, h2⟩ := aget_some hg
    exact h2 ▸ List.mem_map_of_mem h1
end Go.Proofs.Ytkenimmellonjaa
/- Seat r2: a valid ring, as the papers say it. -/
namespace Go.Proofs.Ytkenimmellonjaa
open Go.Pv Go.RowKit Go.Shelf
/-- A bid that will not do. -/
def badB (ms : List Int) (b : B) : Bool := bif bif !(ms.any fun y => y == b.1) then true else decide (b.2 < 0) then true else decide (b.2 > 1048576)
/-- Neighbours in order. -/
def ascL : List Int → Bool
  | [] => true
  | x :: r => match r with
    | [] => true
    | y :: _ => bif decide (x ≥ y) then false else ascL r
def vBids (ms : List Int) (l : List B) : Int :=
  bif decide ((l.length : Int) > (ms.length : Int)) then 104 else bif l.any (badB ms) then 103 else bif !ascL (l.map (·.1)) then 111 else 0
theorem drop_two {α : Type} {l : List α} {i : Nat} {x y : α} (hx : l[i]? = some x) (hy : l[i + 1]? = some y) : l.drop i = x :: y :: l.drop (i + 2) := by
  obtain ⟨h1, h2⟩ := List.getElem?_eq_some_iff.1 hx
  obtain ⟨h3, h4⟩ := List.getElem?_eq_some_iff.1 hy
  rw [List.drop_eq_getElem_cons h1, List.drop_eq_getElem_cons h3, h2, h4]
theorem ascL_two (x y : Int) (r : List Int) : ascL (x :: y :: r) = bif decide (x ≥ y) then false else ascL (y :: r) := rfl
theorem back_i {i : Nat} (h : i + 1 ≤ 4611686018427387904) : IntKind.wrap .i64 (((i + 1 : Nat) : Int) - 1) = (i : Int) := pred_i (i := i + 1) (by omega) h
theorem ascL_short {l : List Int} (h : l.length ≤ 1) : ascL l = true := by
  match l, h with
  | [], _ => rfl
  | [_], _ => rfl
theorem ascL_drop {l : List Int} {i : Nat} {x y : Int} (hx : l[i]? = some x) (hy : l[i + 1]? = some y) : ascL (l.drop i) = bif decide (x ≥ y) then false else ascL (l.drop (i + 1)) := by
  have h := drop_two hx hy
  rw [h, ascL_two]
  have h2 : l.drop (i + 1) = y :: l.drop (i + 2) := by
    obtain ⟨h3, h4⟩ := List.getElem?_eq_some_iff.1 hy
    rw [List.drop_eq_getElem_cons h3, h4]
  rw [h2]
set_option maxRecDepth 100000 in
theorem validBids (ms : List Int) (hm : ms.length ≤ 100000) (l : List B) (hl : l.length ≤ 100000) : Contract Try.prog G0 108 [.d (.list 1 (rowsI ms)), .d (.list 2 (rowsB l))] [] (fun r t => r = .d (.int .i64 (vBids ms l)) ∧ t = []) := by
  have hlen := rowsB_len l
  have hmn := rowsI_len ms
  refine run108 0 [] rfl rfl ?_
  conv => whnf
  refine bcase_intro (fun hg => ?_) (fun hg => ?_) <;> conv => whnf
  · rw [hlen, hmn] at hg
    rw [vBids, hg]
    exact ⟨rfl, rfl⟩
  rw [hlen, hmn] at hg
  refine StopG.rounds wk108 [] [0, 1, 5] (fun m env s => ∃ i : Nat, i ≤ l.length ∧ l.any (badB ms) = (l.drop i).any (badB ms) ∧ m = l.length - i ∧ env = [(0, .d (.list 1 (rowsI ms))), (1, .d (.list 2 (rowsB l))), (5, .d (.int .i64 (i : Int)))] ∧ s = []) rfl ?_ ?_
  · conv => whnf
    exact ⟨_, 0, Nat.zero_le _, rfl, rfl, rfl, rfl⟩
  rintro m env s ⟨i, hi, hh, rfl, rfl, rfl⟩
  conv => whnf
  refine bcase_intro (fun h => ?_) (fun h => ?_) <;> conv => whnf
  · have hil := lt_of h
    rw [hlen] at hil
    obtain ⟨x, hx, hdrop⟩ := at_i hil
    refine ⟨rowB x, ⟨by omega, row_i hx⟩, ?_⟩
    conv => whnf
    refine .scal [.d (.list 1 (rowsI ms)), .d (.int .i64 x.1)] _ ⟨.refl _, rfl, among ms (by omega) x.1⟩ ?_
    conv => whnf
    refine ⟨rowB x, fun _ => ⟨by omega, row_i hx⟩, ?_⟩
    conv => whnf
    refine ⟨rowB x, fun _ => ⟨by omega, row_i hx⟩, ?_⟩
    conv => whnf
    rw [hdrop] at hh
    refine bcase_intro (fun hb => ?_) (fun hb => ?_) <;> conv => whnf
    · have hs : badB ms x = true := hb
      rw [List.any_cons, hs, Bool.true_or] at hh
      rw [vBids, hg, hh]
      exact ⟨rfl, rfl⟩
    · have hs : badB ms x = false := hb
      rw [List.any_cons, hs, Bool.false_or] at hh
      rw [succ_i hil (by omega)]
      exact ⟨_, by omega, i + 1, hil, hh, rfl, rfl, rfl⟩
  have hil := ge_of h
  rw [hlen] at hil
  rw [show l.drop i = [] from List.drop_of_length_le hil] at hh
  have hh : l.any (badB ms) = false := hh
  refine StopG.rounds wk108 [] [1, 6] (fun m env s => ∃ i : Nat, i ≤ l.length ∧ ascL (l.map (·.1)) = ascL ((l.map (·.1)).drop i) ∧ m = l.length - i ∧ env = [(1, .d (.list 2 (rowsB l))), (6, .d (.int .i64 ((i + 1 : Nat) : Int)))] ∧ s = []) rfl ?_ ?_
  · conv => whnf
    exact ⟨_, 0, Nat.zero_le _, rfl, rfl, rfl, rfl⟩
  rintro m env s ⟨i, hi, ha, rfl, rfl, rfl⟩
  conv => whnf
  refine bcase_intro (fun h => ?_) (fun h => ?_) <;> conv => whnf
  · have hil := lt_of h
    rw [hlen] at hil
    obtain ⟨x, hx, _⟩ := at_i (show i < l.length by omega)
    obtain ⟨y, hy, _⟩ := at_i hil
    rw [back_i (by omega)]
    refine ⟨rowB x, ⟨by omega, row_i hx⟩, ?_⟩
    conv => whnf
    refine ⟨rowB y, ⟨by omega, row_i hy⟩, ?_⟩
    conv => whnf
    have hd := ascL_drop (l := l.map (·.1)) (i := i) (x := x.1) (y := y.1) (by rw [List.getElem?_map, hx]; rfl) (by rw [List.getElem?_map, hy]; rfl)
    refine bcase_intro (fun hb => ?_) (fun hb => ?_) <;> conv => whnf
    · rw [hb] at hd
      rw [vBids, hg, hh, ha, hd]
      exact ⟨rfl, rfl⟩
    · rw [hb] at hd
      rw [succ_i (i := i + 1) hil (by omega)]
      exact ⟨_, by omega, i + 1, by omega, ha.trans hd, rfl, rfl, rfl⟩
  · have hil := ge_of h
    rw [hlen] at hil
    rw [ascL_short (l := (l.map (·.1)).drop i) (by simp; omega)] at ha
    rw [vBids, hg, hh, ha]
    exact ⟨rfl, rfl⟩
/-- An entry that will not do. -/
def badE (ms : List Int) (e : En) : Bool :=
  bif bif bif bif bif decide (e.fl < 0) then true else decide (e.fl ≥ 64) then true else (bif !(e.dr == 1) then !(e.dr == -1) else false) then true else decide (e.gn < 1) then true else decide (e.gn > 2147483647) then true else (bif !(e.aw == -1) then !(ms.any fun y => y == e.aw) else false)
def lessE (a b : En) : Bool := bif decide (a.fl < b.fl) then true else bif a.fl == b.fl then decide (a.dr < b.dr) else false
def vEnts (ms : List Int) : Option En → List En → Int
  | _, [] => 0
  | p, e :: r => bif badE ms e then 103 else bif (match p with | none => false | some q => !lessE q e) then 111 else bif !(vBids ms e.bids == 0) then vBids ms e.bids else vEnts ms (some e) r
theorem vEnts_cons (ms : List Int) (p : Option En) (e : En) (r : List En) : vEnts ms p (e :: r) = bif badE ms e then (103 : Int) else bif (match p with | none => false | some q => !lessE q e) then 111 else bif !(vBids ms e.bids == 0) then vBids ms e.bids else vEnts ms (some e) r := by
  cases p <;> rfl
def vRing (cnt fdr hop : Int) (mem : List Int) (l : List En) : Int :=
  bif bif bif !epoB cnt fdr then true else decide (hop < 0) then true else decide (hop > 1099511627776) then 103 else
  bif bif bif ((mem.length : Int) == 0) then true else decide ((mem.length : Int) > 16) then true else decide ((l.length : Int) > 128) then 104 else
  bif mem.any (fun x => !carB x) then 103 else bif !ascL mem then 111 else vEnts mem none l
abbrev epoV (cnt fdr : Int) : AV := .agg [.d (.int .i64 cnt), .d (.int .i64 fdr)]
set_option maxRecDepth 100000 in
theorem validRing (cnt fdr hop : Int) (mem : List Int) (hm : mem.length ≤ 100000) (l : List En) (hl : l.length ≤ 1000) (hb : ∀ e ∈ l, e.bids.length ≤ 100000) : Contract Try.prog G0 79 [awG cnt fdr hop mem l] [] (fun r t => r = .d (.int .i64 (vRing cnt fdr hop mem l)) ∧ t = []) := by
  have hlen := rowsE_len l
  have hmn := rowsI_len mem
  refine run79 0 [] rfl rfl ?_
  conv => whnf
  refine .scal [epoV cnt fdr] _ ⟨.refl _, rfl, epoch106 cnt fdr⟩ ?_
  conv => whnf
  refine bcase_intro (fun h1 => ?_) (fun h1 => ?_) <;> conv => whnf
  · rw [vRing, h1]; exact ⟨rfl, rfl⟩
  refine bcase_intro (fun h2 => ?_) (fun h2 => ?_) <;> conv => whnf
  · rw [hlen, hmn] at h2
    rw [vRing, h1, h2]; exact ⟨rfl, rfl⟩
  rw [hlen, hmn] at h2
  refine StopG.rounds wk79 [] [1, 3, 4] (fun m env s => ∃ i : Nat, i ≤ mem.length ∧ (mem.any fun x => !carB x) = ((mem.drop i).any fun x => !carB x) ∧ m = mem.length - i ∧ env = [(1, .ref (.g 0) 0), (3, .d (.int .i64 ((rowsI mem).length : Int))), (4, .d (.int .i64 (i : Int)))] ∧ s = [(0, .cells [.d (.int .i64 cnt), .d (.int .i64 fdr), .d (.int .i64 hop), .d (.list 1 (rowsI mem)), .d (.list 5 (rowsE l))])]) rfl ?_ ?_
  · conv => whnf
    exact ⟨_, 0, Nat.zero_le _, rfl, rfl, rfl, rfl⟩
  rintro m env s ⟨i, hi, h3, rfl, rfl, rfl⟩
  conv => whnf
  refine bcase_intro (fun h => ?_) (fun h => ?_) <;> conv => whnf
  · have hil := lt_of h
    rw [hmn] at hil
    obtain ⟨x, hx, hdrop⟩ := at_i hil
    refine ⟨rowI x, ⟨by omega, row_i hx⟩, ?_⟩
    conv => whnf
    refine .scal [.d (.int .i64 x)] _ ⟨.refl _, rfl, car107 x⟩ ?_
    conv => whnf
    rw [hdrop, List.any_cons] at h3
    refine bcase_intro (fun hb => ?_) (fun hb => ?_) <;> conv => whnf
    · rw [hb, Bool.true_or] at h3
      rw [vRing, h1, h2, h3]; exact ⟨rfl, rfl⟩
    · rw [hb, Bool.false_or] at h3
      rw [succ_i hil (by omega)]
      exact ⟨_, by omega, i + 1, hil, h3, rfl, rfl, rfl⟩
  have hil := ge_of h
  rw [hmn] at hil
  rw [show mem.drop i = [] from List.drop_of_length_le hil] at h3
  refine StopG.rounds wk79 [] [1, 3, 5] (fun m env s => ∃ i : Nat, i ≤ mem.length ∧ ascL mem = ascL (mem.drop i) ∧ m = mem.length - i ∧ env = [(1, .ref (.g 0) 0), (3, .d (.int .i64 ((rowsI mem).length : Int))), (5, .d (.int .i64 ((i + 1 : Nat) : Int)))] ∧ s = [(0, .cells [.d (.int .i64 cnt), .d (.int .i64 fdr), .d (.int .i64 hop), .d (.list 1 (rowsI mem)), .d (.list 5 (rowsE l))])]) rfl ?_ ?_
  · conv => whnf
    exact ⟨_, 0, Nat.zero_le _, rfl, rfl, rfl, rfl⟩
  rintro m env s ⟨i, hi, h4, rfl, rfl, rfl⟩
  conv => whnf
  refine bcase_intro (fun h => ?_) (fun h => ?_) <;> conv => whnf
  · have hil := lt_of h
    rw [hmn] at hil
    obtain ⟨x, hx, _⟩ := at_i (show i < mem.length by omega)
    obtain ⟨y, hy, _⟩ := at_i hil
    rw [back_i (by omega)]
    refine ⟨rowI x, ⟨by omega, row_i hx⟩, ?_⟩
    conv => whnf
    refine ⟨rowI y, ⟨by omega, row_i hy⟩, ?_⟩
    conv => whnf
    have hd := ascL_drop hx hy
    refine bcase_intro (fun hb => ?_) (fun hb => ?_) <;> conv => whnf
    · rw [hb] at hd
      rw [vRing, h1, h2, h3, h4, hd]; exact ⟨rfl, rfl⟩
    · rw [hb] at hd
      rw [succ_i (i := i + 1) hil (by omega)]
      exact ⟨_, by omega, i + 1, by omega, h4.trans hd, rfl, rfl, rfl⟩
  have hil := ge_of h
  rw [hmn] at hil
  rw [ascL_short (l := mem.drop i) (by simp; omega)] at h4
  have hv : vRing cnt fdr hop mem l = vEnts mem none l := by rw [vRing, h1, h2, h3, h4]; rfl
  rw [hv]
  refine StopG.rounds wk79 [] [1, 6] (fun m env s => ∃ i : Nat, i ≤ l.length ∧ vEnts mem none l = vEnts mem (match i with | 0 => none | j + 1 => l[j]?) (l.drop i) ∧ m = l.length - i ∧ env = [(1, .ref (.g 0) 0), (6, .d (.int .i64 (i : Int)))] ∧ s = [(0, .cells [.d (.int .i64 cnt), .d (.int .i64 fdr), .d (.int .i64 hop), .d (.list 1 (rowsI mem)), .d (.list 5 (rowsE l))])]) rfl ?_ ?_
  · conv => whnf
    exact ⟨_, 0, Nat.zero_le _, rfl, rfl, rfl, rfl⟩
  rintro m env s ⟨i, hi, h5, rfl, rfl, rfl⟩
  conv => whnf
  refine bcase_intro (fun h => ?_) (fun h => ?_) <;> conv => whnf
  · have hil := lt_of h
    rw [hlen] at hil
    obtain ⟨x, hx, hdrop⟩ := at_i hil
    have hxb := hb x (List.mem_of_getElem? hx)
    refine ⟨rowE x, ⟨by omega, row_i hx⟩, ?_⟩
    conv => whnf
    refine .scal [.d (.list 1 (rowsI mem)), .d (.int .i64 x.aw)] _ (fun _ => ⟨.refl _, rfl, among mem (by omega) x.aw⟩) ?_
    conv => whnf
    rw [hdrop, vEnts_cons] at h5
    refine bcase_intro (fun hbad => ?_) (fun hbad => ?_) <;> conv => whnf
    · have hbad : badE mem x = true := hbad
      rw [h5, hbad]; exact ⟨rfl, rfl⟩
    have hbad : badE mem x = false := hbad
    rw [hbad] at h5
    cases i with
    | zero =>
      refine ⟨rowE x, (fun hg => by simp [HG, lit, rfind] at hg), ?_⟩
      conv => whnf
      refine .scal [calV x.fl x.dr, calV x.fl x.dr] _ (fun _ => ⟨.refl _, rfl, lessCall _ _ _ _⟩) ?_
      conv => whnf
      simp only at h5
      refine .scal [.d (.list 1 (rowsI mem)), .d (.list 2 (rowsB x.bids))] _ ⟨.refl _, rfl, validBids mem hm x.bids hxb⟩ ?_
      conv => whnf
      refine bcase_intro (fun hq => ?_) (fun hq => ?_) <;> conv => whnf
      · have hq : (!(vBids mem x.bids == 0)) = true := hq
        rw [hq] at h5
        rw [h5]; exact ⟨rfl, rfl⟩
      · have hq : (!(vBids mem x.bids == 0)) = false := hq
        rw [hq] at h5
        rw [succ_i hil (by omega)]
        refine ⟨_, by omega, 0 + 1, hil, ?_, rfl, rfl, rfl⟩
        simp only [hx]
        exact h5
    | succ k =>
      obtain ⟨q, hq, _⟩ := at_i (show k < l.length by omega)
      rw [back_i (by omega)]
      refine ⟨rowE q, (fun _ => ⟨by omega, row_i hq⟩), ?_⟩
      conv => whnf
      refine .scal [calV q.fl q.dr, calV x.fl x.dr] _ (fun _ => ⟨.refl _, rfl, lessCall _ _ _ _⟩) ?_
      conv => whnf
      simp only [hq] at h5
      refine bcase_intro (fun hp => ?_) (fun hp => ?_) <;> conv => whnf
      · have hp : (bif decide (((k + 1 : Nat) : Int) > 0) then !lessE q x else false) = true := hp
        rw [show decide (((k + 1 : Nat) : Int) > 0) = true from decide_eq_true (by omega)] at hp
        have hp : (!lessE q x) = true := hp
        rw [hp] at h5
        rw [h5]; exact ⟨rfl, rfl⟩
      · have hp : (bif decide (((k + 1 : Nat) : Int) > 0) then !lessE q x else false) = false := hp
        rw [show decide (((k + 1 : Nat) : Int) > 0) = true from decide_eq_true (by omega)] at hp
        have hp : (!lessE q x) = false := hp
        rw [hp] at h5
        refine .scal [.d (.list 1 (rowsI mem)), .d (.list 2 (rowsB x.bids))] _ ⟨.refl _, rfl, validBids mem hm x.bids hxb⟩ ?_
        conv => whnf
        refine bcase_intro (fun hq => ?_) (fun hq => ?_) <;> conv => whnf
        · have hq : (!(vBids mem x.bids == 0)) = true := hq
          rw [hq] at h5
          rw [h5]; exact ⟨rfl, rfl⟩
        · have hq : (!(vBids mem x.bids == 0)) = false := hq
          rw [hq] at h5
          rw [succ_i hil (by omega)]
          refine ⟨_, by omega, k + 1 + 1, hil, ?_, rfl, rfl, rfl⟩
          simp only [hx]
          exact h5
  · have hil := ge_of h
    rw [hlen] at hil
    rw [h5, show l.drop i = [] from List.drop_of_length_le hil]
    exact ⟨rfl, rfl⟩
end Go.Proofs.Ytkenimmellonjaa
/- Seat r2: rings that are light; the first look. -/
namespace Go.Proofs.Ytkenimmellonjaa
open Go.Pv Go.RowKit Go.Shelf
def fat (e : En) : Bool := decide ((e.bids.length : Int) > 16)
def lightB (cnt fdr hop : Int) (mem : List Int) (l : List En) : Bool :=
  bif l.any fat then false else bif bif decide ((mem.length : Int) ≤ 16) then decide ((l.length : Int) ≤ 30) else false then vRing cnt fdr hop mem l == 0 else false
theorem succ_m {i n : Nat} (h : i < n) (hn : n ≤ maxLen) : IntKind.wrap .i64 ((i : Int) + 1) = ((i + 1 : Nat) : Int) := by
  have e : maxLen = 9223372036854775807 := rfl
  rw [wrap_id (by omega) (by omega)]
  rfl
set_option maxRecDepth 100000 in
theorem light (cnt fdr hop : Int) (mem : List Int) (l : List En) (hl : l.length ≤ maxLen) : Contract Try.prog G0 48 [awG cnt fdr hop mem l] [] (fun r t => r = .d (.bool (lightB cnt fdr hop mem l)) ∧ t = []) := by
  have hlen := rowsE_len l
  have hmn := rowsI_len mem
  refine run48 0 [] rfl rfl ?_
  conv => whnf
  refine StopG.rounds wk48 [] [1, 3] (fun m env s => ∃ i : Nat, i ≤ l.length ∧ l.any fat = (l.drop i).any fat ∧ m = l.length - i ∧ env = [(1, .ref (.g 0) 0), (3, .d (.int .i64 (i : Int)))] ∧ s = [(0, .cells [.d (.int .i64 cnt), .d (.int .i64 fdr), .d (.int .i64 hop), .d (.list 1 (rowsI mem)), .d (.list 5 (rowsE l))])]) rfl ?_ ?_
  · conv => whnf
    exact ⟨_, 0, Nat.zero_le _, rfl, rfl, rfl, rfl⟩
  rintro m env s ⟨i, hi, h5, rfl, rfl, rfl⟩
  conv => whnf
  refine bcase_intro (fun h => ?_) (fun h => ?_) <;> conv => whnf
  · have hil := lt_of h
    rw [hlen] at hil
    obtain ⟨x, hx, hdrop⟩ := at_i hil
    refine ⟨rowE x, ⟨by omega, row_i hx⟩, ?_⟩
    conv => whnf
    rw [hdrop, List.any_cons] at h5
    refine bcase_intro (fun hb => ?_) (fun hb => ?_) <;> conv => whnf
    · rw [rowsB_len] at hb
      rw [show fat x = true from hb, Bool.true_or] at h5
      rw [lightB, h5]; exact ⟨rfl, rfl⟩
    · rw [rowsB_len] at hb
      rw [show fat x = false from hb, Bool.false_or] at h5
      rw [succ_m hil hl]
      exact ⟨_, by omega, i + 1, hil, h5, rfl, rfl, rfl⟩
  have hil := ge_of h
  rw [hlen] at hil
  rw [show l.drop i = [] from List.drop_of_length_le hil] at h5
  have h5 : l.any fat = false := h5
  refine .scal [awG cnt fdr hop mem l] (.d (.int .i64 (vRing cnt fdr hop mem l))) (fun hg => ⟨.refl _, rfl, ?_⟩) ?_
  · have hg2 : (bif decide (((rowsI mem).length : Int) ≤ 16) then decide (((rowsE l).length : Int) ≤ 30) else false) = true := by simpa [HG, lit, rfind] using hg
    rw [hlen, hmn] at hg2
    have h1 : mem.length ≤ 16 ∧ l.length ≤ 30 := by
      cases h2 : decide ((mem.length : Int) ≤ 16) <;> rw [h2] at hg2 <;> simp at h2 hg2
      omega
    refine validRing cnt fdr hop mem (by omega) l (by omega) fun e he => ?_
    have h3 := (List.any_eq_false.1 h5) e he
    have h4 : ¬ ((e.bids.length : Int) > 16) := by simpa [fat] using h3
    omega
  · conv => whnf
    rw [hlen, hmn, lightB, h5]; exact ⟨rfl, rfl⟩
set_option maxRecDepth 100000 in
theorem new_nil (cnt fdr : Int) (l : List Int) (hl : l.length ≤ 100000) : Contract Try.prog G0 65 [epoV cnt fdr, .d (.list 1 (rowsI l))] [] (fun r t => r = rgV cnt fdr 0 (setI l) (.d .nil) ∧ t = []) := by
  refine run65 0 [] rfl rfl ?_
  conv => whnf
  refine .data [.d (.list 1 (rowsI l))] _ ⟨WkL.refl _, rfl, set19 l hl⟩ ?_
  conv => whnf
  exact ⟨rfl, rfl⟩
theorem new (cnt fdr : Int) (l : List Int) (hl : l.length ≤ 100000) : Contract Try.prog G0 65 [epoV cnt fdr, .d (.list 1 (rowsI l))] [] (fun r t => r = awG cnt fdr 0 (setI l) [] ∧ t = []) :=
  (new_nil cnt fdr l hl).weak 5 fun r t h => by
    obtain ⟨h, rfl⟩ := h; subst h; exact ⟨rfl, rfl, rfl, rfl⟩
theorem newO (cnt fdr : Int) (l : List Int) (hl : l.length ≤ 100000) (cap : Nat) : Contract Try.prog G0 65 [epoV cnt fdr, .slc (.g 0) 1 0 l.length cap] [(0, .row 1 (rowsI l))] (fun r t => r = awG cnt fdr 0 (setI l) [] ∧ t = [(0, .dead)]) := by
  have h0 := new cnt fdr l hl
  have e : fzL 0 (AB.row 1 (rowsI l)) [epoV cnt fdr, .slc (.g 0) 1 0 l.length cap] = [epoV cnt fdr, .d (.list 1 ((List.drop 0 (rowsI l)).take l.length))] := rfl
  have hrl := rowsI_len l
  refine Contract.frz (by simp) (by repeat' first | exact trivial | apply And.intro | decide | (simp; done) | omega) rfl ?_
  rw [e, List.drop_zero, List.take_of_length_le (by rw [rowsI_len]; exact Nat.le_refl _)]
  exact h0
set_option maxRecDepth 100000 in
theorem first47 : Contract Try.prog G0 47 [] [] (fun r t => r = .d (.bool true) ∧ t = []) := by
  refine run47 0 [] rfl rfl ?_
  conv => whnf
  refine .data [epoV 1 0, .d (.list 1 (rowsI [2, 0, 2]))] _ ⟨.refl _, rfl, new 1 0 [2, 0, 2] (by decide)⟩ ?_
  rw [show setI [2, 0, 2] = [0, 2] from by rw [← set6_eq]; decide]
  conv => whnf
  refine .data [awG 1 0 0 [0, 2] []] _ ⟨.refl _, rfl, award 1 0 0 [0, 2] (by decide) [] (by decide) (by simp)⟩ ?_
  conv => whnf
  refine ⟨rowI 0, fun _ => ⟨by decide, rfl⟩, ?_⟩
  conv => whnf
  exact ⟨rfl, rfl⟩
end Go.Proofs.Ytkenimmellonjaa
/- Seat r2: what is wanted, what is bid. -/
namespace Go.Proofs.Ytkenimmellonjaa
open Go.Pv Go.RowKit Go.Shelf
def rowC (c : Int × Int) : List DV := [.int .i64 c.1, .int .i64 c.2]
def rowsC (l : List (Int × Int)) : List (List DV) := l.map rowC
theorem rowsC_len (l : List (Int × Int)) : (rowsC l).length = l.length := by simp [rowsC]
def callE (e : En) : Int × Int := (e.fl, e.dr)
def wishE (car : Int) (e : En) : Bool := bif !(ofB e.bids car).2 then decide (e.aw < 0) else false
def wishL (car : Int) (l : List En) : List (Int × Int) := (l.filter (wishE car)).map callE
def wantL (mem : List Int) (car : Int) (l : List En) : List (Int × Int) := if (mem.any fun y => car == y) = true then wishL car l else []
theorem wishL_snoc {l : List En} {car : Int} {i : Nat} {x : En} (hx : l[i]? = some x) : wishL car (l.take (i + 1)) = wishL car (l.take i) ++ (match wishE car x with | true => [callE x] | false => []) := by
  rw [List.take_add_one, hx]
  simp only [wishL, List.filter_append, List.map_append, Option.toList]
  cases h : wishE car x <;> simp [h]
theorem wishL_len (car : Int) (l : List En) : (wishL car l).length ≤ l.length := by
  rw [wishL, List.length_map]; exact List.length_filter_le _ _
set_option maxRecDepth 100000 in
theorem wants (cnt fdr hop : Int) (mem : List Int) (hm : mem.length ≤ 100000) (l : List En) (hl : l.length ≤ 1000) (hb : ∀ e ∈ l, e.bids.length ≤ 100000) (car : Int) : Contract Try.prog G0 60 [awG cnt fdr hop mem l, .d (.int .i64 car)] [] (fun r t => r = .d (.list 2 (rowsC (wantL mem car l))) ∧ t = []) := by
  have hlen := rowsE_len l
  refine Contract.as_list (by decide) ?_
  refine run60 0 [] rfl rfl ?_
  conv => whnf
  refine .scal [.d (.list 1 (rowsI mem)), .d (.int .i64 car)] _ ⟨.refl _, rfl, has mem (by omega) car⟩ ?_
  conv => whnf
  refine bcase_intro (fun hh => ?_) (fun hh => ?_) <;> conv => whnf
  · have hh : (mem.any fun y => car == y) = false := by simpa using hh
    rw [wantL, if_neg (by rw [hh]; decide)]
    exact .inl ⟨.inl rfl, rfl, rfl⟩
  have hh : (mem.any fun y => car == y) = true := by simpa using hh
  rw [wantL, if_pos hh]
  refine StopG.rounds wk60 [] [1, 5, 16, 17, 18] (fun m env s => ∃ i : Nat, ∃ w, wishL car (l.take i) = w ∧ i ≤ l.length ∧ m = l.length - i ∧ ((w = [] ∧ env = [(1, .d (.int .i64 car)), (5, .d .nil), (16, .d (.list 5 (rowsE l))), (17, .d (.int .i64 ((rowsE l).length : Int))), (18, .d (.int .i64 (i : Int)))] ∧ s = []) ∨ ∃ wc, w.length ≤ wc ∧ env = [(1, .d (.int .i64 car)), (5, .slc (.g 0) 2 0 w.length wc), (16, .d (.list 5 (rowsE l))), (17, .d (.int .i64 ((rowsE l).length : Int))), (18, .d (.int .i64 (i : Int)))] ∧ s = [(0, .row 2 (rowsC w))])) rfl ?_ ?_
  · conv => whnf
    exact ⟨_, 0, [], rfl, Nat.zero_le _, rfl, .inl ⟨rfl, rfl, rfl⟩⟩
  rintro m env s ⟨i, w, hw, hi, rfl, hout⟩
  rcases hout with ⟨rfl, rfl, rfl⟩ | ⟨wc, hwc, rfl, rfl⟩
  · conv => whnf
    refine bcase_intro (fun h => ?_) (fun h => ?_) <;> conv => whnf
    · have hil := lt_of h
      rw [hlen] at hil
      obtain ⟨x, hx, hdrop⟩ := at_i hil
      have hxb := hb x (List.mem_of_getElem? hx)
      refine ⟨rowE x, ⟨by omega, row_i hx⟩, ?_⟩
      conv => whnf
      refine .data [.d (.list 2 (rowsB x.bids)), .d (.int .i64 car)] _ ⟨WkL.refl _, rfl, of_ x.bids (by omega) car⟩ ?_
      conv => whnf
      refine bcase_intro (fun hg => ?_) (fun hg => ?_) <;> conv => whnf
      · have hwon : wishE car x = true := hg
        refine ⟨⟨?_, ?_⟩, ?_⟩
        · show (2 * 1 + 1024) * 16 ≤ 281474976710656; omega
        · show 1 ≤ _; omega
        conv => whnf
        intro c2 hc2
        conv => whnf
        rw [succ_i hil (by omega)]
        refine ⟨_, by omega, i + 1, [callE x], ?_, hil, rfl, .inr ⟨c2, hc2, rfl, rfl⟩⟩
        rw [wishL_snoc hx, hw, hwon]; rfl
      · have hwon : wishE car x = false := hg
        rw [succ_i hil (by omega)]
        refine ⟨_, by omega, i + 1, [], ?_, hil, rfl, .inl ⟨rfl, rfl, rfl⟩⟩
        rw [wishL_snoc hx, hw, hwon]; rfl
    · have hil := ge_of h
      rw [hlen] at hil
      rw [show i = l.length by omega, List.take_length] at hw
      rw [hw]
      exact .inl ⟨.inl rfl, rfl, rfl⟩
  · conv => whnf
    refine bcase_intro (fun h => ?_) (fun h => ?_) <;> conv => whnf
    · have hil := lt_of h
      rw [hlen] at hil
      obtain ⟨x, hx, hdrop⟩ := at_i hil
      have hxb := hb x (List.mem_of_getElem? hx)
      refine ⟨rowE x, ⟨by omega, row_i hx⟩, ?_⟩
      conv => whnf
      refine .data [.d (.list 2 (rowsB x.bids)), .d (.int .i64 car)] _ ⟨WkL.refl _, rfl, of_ x.bids (by omega) car⟩ ?_
      conv => whnf
      refine bcase_intro (fun hg => ?_) (fun hg => ?_) <;> conv => whnf
      · have hwon : wishE car x = true := hg
        have hwl : w.length ≤ 1000 := by
          rw [← hw]
          refine Nat.le_trans (wishL_len _ _) ?_
          simp; omega
        have hrl := rowsC_len w
        refine ⟨by omega, ⟨?_, ?_⟩, ?_⟩
        · show (2 * (w.length + 1) + 1024) * 16 ≤ 281474976710656; omega
        · show w.length + 1 ≤ _; omega
        conv => whnf
        intro c2 hc2
        conv => whnf
        rw [succ_i hil (by omega), List.take_of_length_le (by omega)]
        refine ⟨_, by omega, i + 1, w ++ [callE x], ?_, hil, rfl, .inr ⟨c2, by simpa using hc2, ?_, ?_⟩⟩
        · rw [wishL_snoc hx, hw, hwon]
        · rw [List.length_append]; rfl
        · rw [show rowsC (w ++ [callE x]) = rowsC w ++ [rowC (callE x)] by simp [rowsC]]; rfl
      · have hwon : wishE car x = false := hg
        rw [succ_i hil (by omega)]
        refine ⟨_, by omega, i + 1, w, ?_, hil, rfl, .inr ⟨wc, hwc, rfl, rfl⟩⟩
        rw [wishL_snoc hx, hw, hwon, List.append_nil]
    · have hil := ge_of h
      rw [hlen] at hil
      rw [show i = l.length by omega, List.take_length] at hw
      rw [hw]
      exact .inr ⟨wc, by rw [rowsC_len]; exact hwc, by rw [rowsC_len], rfl⟩
abbrev entV (e : En) : AV := .agg [.d (.int .i64 e.fl), .d (.int .i64 e.dr), .d (.int .i64 e.gn), .d (.list 2 (rowsB e.bids)), .d (.int .i64 e.aw)]
def isC (c : Int × Int) (e : En) : Bool := bif e.fl == c.1 then e.dr == c.2 else false
set_option maxRecDepth 100000 in
theorem at116 (e : En) (a b : Int) : Contract Try.prog G0 116 [entV e, .d (.ptr [.int .i64 a, .int .i64 b] 0)] [] (fun r s => r = .d (.bool (isC (a, b) e)) ∧ s = []) := by
  refine run116 0 [] rfl rfl ?_
  conv => whnf
  refine ⟨⟨by kernel_rfl, by kernel_rfl⟩, ?_⟩
  conv => whnf
  exact ⟨rfl, rfl⟩
set_option maxRecDepth 100000 in
theorem index96 (l : List En) (hl : l.length ≤ 4611686018427387904) (p : En → Bool) (f : Nat) (cs : List DV) (hf : ∀ x, Contract Try.prog G0 f [entV x, .d (.ptr cs 0)] [] (fun r t => r = .d (.bool (p x)) ∧ t = [])) :
    Contract Try.prog G0 96 [.d (.list 5 (rowsE l)), .fn f [.d (.ptr cs 0)]] [] (fun r t => r = .d (.int .i64 (idxFrom p l 0)) ∧ t = []) := by
  have hlen := rowsE_len l
  refine run96 0 [] rfl rfl ?_
  conv => whnf
  refine StopG.rounds wk96 [] [0, 1, 4, 7, 8] (fun m env s => ∃ i : Nat, i ≤ l.length ∧ m = l.length - i ∧ idxFrom p (l.drop i) i = idxFrom p l 0 ∧
    env = [(0, .d (.list 5 (rowsE l))), (1, .fn f [.d (.ptr cs 0)]), (4, .d (.int .i64 0)), (7, .d (.int .i64 ((rowsE l).length : Int))), (8, .d (.int .i64 (i : Int)))] ∧ s = []) rfl ?_ ?_
  · conv => whnf
    exact ⟨_, 0, Nat.zero_le _, rfl, rfl, rfl, rfl⟩
  rintro m env s ⟨i, hi, rfl, hidx, rfl, rfl⟩
  conv => whnf
  refine bcase_intro (fun h => ?_) (fun h => ?_) <;> conv => whnf
  · have h := lt_of h
    rw [hlen] at h
    obtain ⟨x, hx, hdrop⟩ := at_i h
    refine ⟨rowE x, ⟨by omega, row_i hx⟩, ?_⟩
    conv => whnf
    refine .scal [entV x, .d (.ptr cs 0)] _ ⟨.refl _, rfl, hf x⟩ ?_
    conv => whnf
    rw [hdrop, idxFrom] at hidx
    refine bcase_intro (fun h2 => ?_) (fun h2 => ?_) <;> conv => whnf
    · rw [if_pos h2] at hidx
      exact ⟨rd_int hidx, rfl⟩
    · rw [succ_i h (by omega)]
      refine ⟨_, by omega, i + 1, h, rfl, ?_, rfl, rfl⟩
      rw [if_neg (by rw [h2]; decide)] at hidx
      exact hidx
  · have h := ge_of h
    rw [hlen] at h
    rw [show l.drop i = [] from List.drop_of_length_le h, idxFrom] at hidx
    exact ⟨rd_int hidx, rfl⟩
set_option maxRecDepth 100000 in
theorem at87 (cnt fdr hop : Int) (mem : List Int) (l : List En) (hl : l.length ≤ 4611686018427387904) (a b : Int) : Contract Try.prog G0 87 [awG cnt fdr hop mem l, calV a b] [] (fun r t => r = .d (.int .i64 (idxFrom (isC (a, b)) l 0)) ∧ t = []) := by
  refine run87 0 [] rfl rfl ?_
  conv => whnf
  refine .scal [.d (.list 5 (rowsE l)), .fn 116 [.d (.ptr [.int .i64 a, .int .i64 b] 0)]] _ ⟨.fz 1 _ rfl (by simp) (by repeat' first | exact trivial | apply And.intro) (.refl _), rfl, index96 l hl _ 116 _ fun e => at116 e a b⟩ ?_
  conv => whnf
  exact ⟨rfl, rfl⟩
end Go.Proofs.Ytkenimmellonjaa
/- Seat r2: what is struck off. -/
namespace Go.Proofs.Ytkenimmellonjaa
open Go.Pv Go.RowKit Go.Shelf
abbrev keepL (p : En → Bool) (l : List En) : List En := l.filter fun e => !p e
theorem idx_before {α : Type} {p : α → Bool} : ∀ (l : List α) (i : Int) (k : Nat), idxFrom p l i = i + k → ∀ e ∈ l.take k, p e = false
  | [], _, _, _, _, h => by simp at h
  | _ :: _, _, 0, _, _, h => by simp at h
  | x :: r, i, k + 1, h, e, he => by
    unfold idxFrom at h
    split at h
    · omega
    · rename_i hx
      rw [List.take_succ_cons] at he
      rcases List.mem_cons.1 he with rfl | he
      · simpa using hx
      · exact idx_before r (i + 1) k (by rw [h]; omega) e he
set_option maxRecDepth 100000 in
theorem index96O (l : List En) (hl : l.length ≤ 4611686018427387904) (p : En → Bool) (f : Nat) (cs : List DV) (hf : ∀ x, Contract Try.prog G0 f [entV x, .d (.ptr cs 0)] [] (fun r t => r = .d (.bool (p x)) ∧ t = [])) :
    Contract Try.prog G0 96 [.d (.list 5 ((List.drop 0 (rowsE l)).take l.length)), .fn f [.d (.ptr cs 0)]] [] (fun r t => r = .d (.int .i64 (idxFrom p l 0)) ∧ t = []) := by
  rw [List.drop_zero, List.take_of_length_le (by rw [rowsE_len]; exact Nat.le_refl _)]
  exact index96 l hl p f cs hf
set_option maxRecDepth 100000 in
theorem deleteFunc (l : List En) (hl : l.length ≤ 1000) (cap : Nat) (hcap : l.length ≤ cap) (p : En → Bool) (f : Nat) (cs : List DV) (hf : ∀ x, Contract Try.prog G0 f [entV x, .d (.ptr cs 0)] [] (fun r t => r = .d (.bool (p x)) ∧ t = [])) :
    Contract Try.prog G0 89 [.slc (.g 0) 5 0 l.length cap, .fn f [.d (.ptr cs 0)]] [(0, .row 5 (rowsE l))] (fun r t => ∃ tl, r = .slc (.g 0) 5 0 (keepL p l).length cap ∧ t = [(0, .row 5 (rowsE (keepL p l) ++ tl))]) := by
  have hrl := rowsE_len l
  have hix := index96O l (by omega) p f cs hf
  refine run89 1 [] rfl rfl ?_
  rcases idx_cases0 p l with ⟨h1, hno⟩ | ⟨k, x0, h1, hx0, hfd⟩
  · rw [h1] at hix
    conv => whnf
    refine .scal [.d (.list 5 ((List.drop 0 (rowsE l)).take l.length)), .fn f [.d (.ptr cs 0)]] (.d (.int .i64 (-1))) ⟨.fz 0 _ rfl (by simp) (by repeat' first | exact trivial | apply And.intro | decide | (simp; done) | omega) (.refl _), rfl, hix⟩ ?_
    conv => whnf
    have hall : keepL p l = l := by
      rw [keepL, List.filter_eq_self]
      intro e he
      have := (List.find?_eq_none.1 hno) e he
      simpa using this
    exact ⟨[], by rw [hall], by rw [hall, List.append_nil]⟩
  · rw [h1] at hix
    have hkl := (List.getElem?_eq_some_iff.1 hx0).1
    conv => whnf
    refine .scal [.d (.list 5 ((List.drop 0 (rowsE l)).take l.length)), .fn f [.d (.ptr cs 0)]] (.d (.int .i64 (k : Int))) ⟨.fz 0 _ rfl (by simp) (by repeat' first | exact trivial | apply And.intro | decide | (simp; done) | omega) (.refl _), rfl, hix⟩ ?_
    conv => whnf
    rw [succ_i hkl (by omega)]
    have hpre : keepL p (l.take k) = l.take k := by
      rw [keepL, List.filter_eq_self]
      intro e he
      have := idx_before l 0 k (by rw [h1]; omega) e he
      simpa using this
    have hpx : p x0 = true := List.find?_some hfd
    have hk1 : keepL p (l.take (k + 1)) = l.take k := by
      rw [List.take_add_one, hx0, keepL, List.filter_append]
      have := hpre
      rw [keepL] at this
      rw [this]
      simp [hpx]
    refine StopG.rounds wk89 [] [0, 1, 5, 6] (fun m env s => ∃ (j : Nat) (mid : List (List DV)), j ≤ l.length ∧ mid.length + (keepL p (l.take j)).length = j ∧ 0 < mid.length ∧ (∀ r ∈ mid, r.length = 5) ∧ m = l.length - j ∧ env = [(0, .slc (.g 0) 5 0 l.length cap), (1, .fn f [.d (.ptr cs 0)]), (5, .d (.int .i64 ((keepL p (l.take j)).length : Int))), (6, .d (.int .i64 (j : Int)))] ∧ s = [(0, .row 5 (rowsE (keepL p (l.take j)) ++ mid ++ rowsE (l.drop j)))]) rfl ?_ ?_
    · conv => whnf
      refine ⟨_, k + 1, [rowE x0], hkl, ?_, by simp, by simp [rowE], rfl, ?_, ?_⟩
      · rw [hk1]; simp; omega
      · rw [hk1, List.length_take, Nat.min_eq_left (by omega)]
      · rw [hk1]
        refine congrArg (fun q => [(0, AB.row 5 q)]) ?_
        obtain ⟨y, hy, hd⟩ := at_i hkl
        rw [hx0] at hy
        cases hy
        conv => lhs; rw [← List.take_append_drop k l, hd]
        simp [rowsE]
    rintro m env s ⟨j, mid, hj, hmid, hm0, hm5, rfl, rfl, rfl⟩
    conv => whnf
    refine bcase_intro (fun h => ?_) (fun h => ?_) <;> conv => whnf
    · have hjl := lt_of h
      obtain ⟨x, hx, hd⟩ := at_i hjl
      have hrow : (rowsE (keepL p (l.take j)) ++ mid ++ rowsE (l.drop j))[0 + (j : Int).toNat]? = some (rowE x) := by
        rw [List.getElem?_append_right (by simp [rowsE]; omega)]
        simp only [List.length_append, rowsE_len, Nat.zero_add, Int.toNat_natCast]
        rw [show j - ((keepL p (l.take j)).length + mid.length) = 0 by omega, hd]
        rfl
      refine ⟨⟨by omega, by omega⟩, ?_⟩
      conv => whnf
      refine ⟨rowE x, hrow, rfl, ?_⟩
      conv => whnf
      refine .scal [entV x, .d (.ptr cs 0)] _ ⟨.refl _, rfl, hf x⟩ ?_
      conv => whnf
      have htk : keepL p (l.take (j + 1)) = keepL p (l.take j) ++ (match p x with | true => [] | false => [x]) := by
        rw [List.take_add_one, hx, keepL, keepL, List.filter_append]
        cases hp : p x <;> simp [hp]
      refine bcase_intro (fun hg => ?_) (fun hg => ?_) <;> conv => whnf
      · have hg : p x = false := by simpa using hg
        rw [hg] at htk
        have hlk : (keepL p (l.take (j + 1))).length = (keepL p (l.take j)).length + 1 := by rw [htk]; simp
        obtain ⟨m0, mr, rfl⟩ : ∃ m0 mr, mid = m0 :: mr := by
          cases mid with
          | nil => simp at hm0
          | cons a b => exact ⟨a, b, rfl⟩
        refine ⟨⟨by omega, by simp at hmid; omega⟩, ?_⟩
        conv => whnf
        have h5 : m0.length = 5 := hm5 m0 (List.mem_cons_self ..)
        match m0, h5 with
        | [a0, a1, a2, a3, a4], _ =>
        have hi : (rowsE (keepL p (l.take j)) ++ [a0, a1, a2, a3, a4] :: mr ++ rowsE (l.drop j))[0 + ((keepL p (l.take j)).length : Int).toNat]? = some [a0, a1, a2, a3, a4] := by
          rw [List.append_assoc, List.getElem?_append_right (by simp [rowsE])]
          simp [rowsE]
        refine ⟨_, hi, ?_⟩
        conv => whnf
        rw [succ_i hjl (by omega), succ_i (i := (keepL p (l.take j)).length) (Nat.lt_succ_self _) (by simp at hmid; omega), ← hlk]
        refine ⟨_, by omega, j + 1, mr ++ [rowE x], hjl, ?_, by simp, ?_, rfl, rfl, ?_⟩
        · rw [hlk]; simp at hmid ⊢; omega
        · intro r hr
          rcases List.mem_append.1 hr with hr | hr
          · exact hm5 r (List.mem_cons_of_mem _ hr)
          · rw [List.mem_singleton.1 hr]; rfl
        · refine congrArg (fun q => [(0, AB.row 5 q)]) ?_
          rw [htk, hd, show (0 + ((keepL p (l.take j)).length : Int).toNat) = (rowsE (keepL p (l.take j))).length by simp [rowsE], List.append_assoc, List.set_append_right _ _ (Nat.le_refl _), Nat.sub_self]
          show rowsE (keepL p (l.take j)) ++ (rowE x :: (mr ++ rowsE (x :: l.drop (j + 1)))) = _
          simp [rowsE]
      · have hg : p x = true := by simpa using hg
        rw [hg, List.append_nil] at htk
        rw [succ_i hjl (by omega)]
        refine ⟨_, by omega, j + 1, mid ++ [rowE x], hjl, ?_, by simp, ?_, rfl, by rw [htk], ?_⟩
        · rw [htk, List.length_append]; simp; omega
        · intro r hr
          rcases List.mem_append.1 hr with hr | hr
          · exact hm5 r hr
          · rw [List.mem_singleton.1 hr]; rfl
        · rw [htk, hd]; simp [rowsE]
    · have hjl := ge_of h
      have hjl2 : j = l.length := by omega
      rw [hjl2, List.take_length] at hmid
      rw [hjl2, List.take_length, List.drop_length]
      refine ⟨⟨by omega, by omega, by omega⟩, ?_⟩
      conv => whnf
      refine ⟨by simp [rowsE], ?_⟩
      conv => whnf
      refine ⟨⟨by omega, by omega, by omega⟩, ?_⟩
      conv => whnf
      refine ⟨(List.replicate ((l.length : Int).toNat - ((keepL p l).length : Int).toNat) ti72.zero) ++ (rowsE (keepL p l) ++ mid ++ rowsE []).drop (0 + ((keepL p l).length : Int).toNat + (List.replicate ((l.length : Int).toNat - ((keepL p l).length : Int).toNat) ti72.zero).length), by simp, ?_⟩
      refine congrArg (fun q => [(0, AB.row 5 q)]) ?_
      unfold splice
      rw [List.append_assoc, show (rowsE (keepL p l) ++ mid ++ rowsE []).take (0 + ((keepL p l).length : Int).toNat) = rowsE (keepL p l) by rw [List.append_assoc, List.take_left' (by simp [rowsE])]]
end Go.Proofs.Ytkenimmellonjaa
/- Seat r2: the ring without what is lit no more. -/
namespace Go.Proofs.Ytkenimmellonjaa
open Go.Pv Go.RowKit Go.Shelf
def eqK (y x : Int × Int × Int) : Bool := bif y.1 == x.1 then (bif y.2.1 == x.2.1 then y.2.2 == x.2.2 else false) else false
set_option maxRecDepth 100000 in
theorem indexK (l : List (Int × Int × Int)) (hl : l.length ≤ 4611686018427387904) (k : Int × Int × Int) : Contract Try.prog G0 105 [.d (.list 3 (rowsK l)), latV k.1 k.2.1 k.2.2] [] (fun r t => r = .d (.int .i64 (idxFrom (eqK k) l 0)) ∧ t = []) := by
  have hlen := rowsK_len l
  refine run105 0 [] rfl rfl ?_
  conv => whnf
  refine StopG.rounds wk105 [] [0, 3, 7, 8] (fun m env s => ∃ i : Nat, i ≤ l.length ∧ m = l.length - i ∧ idxFrom (eqK k) (l.drop i) i = idxFrom (eqK k) l 0 ∧
    env = [(0, .d (.list 3 (rowsK l))), (3, .ref (.g 0) 0), (7, .d (.int .i64 ((rowsK l).length : Int))), (8, .d (.int .i64 (i : Int)))] ∧ s = [(0, .cells [.d (.int .i64 k.1), .d (.int .i64 k.2.1), .d (.int .i64 k.2.2)])]) rfl ?_ ?_
  · conv => whnf
    exact ⟨_, 0, Nat.zero_le _, rfl, rfl, rfl, rfl⟩
  rintro m env s ⟨i, hi, rfl, hidx, rfl, rfl⟩
  conv => whnf
  refine bcase_intro (fun h => ?_) (fun h => ?_) <;> conv => whnf
  · have h := lt_of h
    rw [hlen] at h
    obtain ⟨x, hx, hdrop⟩ := at_i h
    refine ⟨rowK x, ⟨by omega, row_i hx⟩, ?_⟩
    conv => whnf
    refine ⟨⟨by kernel_rfl, by kernel_rfl⟩, ?_⟩
    conv => whnf
    rw [hdrop, idxFrom] at hidx
    refine bcase_intro (fun h2 => ?_) (fun h2 => ?_) <;> conv => whnf
    · have h2 : eqK k x = true := h2
      rw [if_pos h2] at hidx
      exact ⟨rd_int hidx, rfl⟩
    · have h2 : eqK k x = false := h2
      rw [succ_i h (by omega)]
      refine ⟨_, by omega, i + 1, h, rfl, ?_, rfl, rfl⟩
      rw [if_neg (by rw [h2]; decide)] at hidx
      exact hidx
  · have h := ge_of h
    rw [hlen] at h
    rw [show l.drop i = [] from List.drop_of_length_le h, idxFrom] at hidx
    exact ⟨rd_int hidx, rfl⟩
set_option maxRecDepth 100000 in
theorem containsK (l : List (Int × Int × Int)) (hl : l.length ≤ 4611686018427387904) (k : Int × Int × Int) : Contract Try.prog G0 78 [.d (.list 3 (rowsK l)), latV k.1 k.2.1 k.2.2] [] (fun r t => r = .d (.bool (l.any (eqK k))) ∧ t = []) := by
  refine run78 0 [] rfl rfl ?_
  conv => whnf
  refine .scal [.d (.list 3 (rowsK l)), latV k.1 k.2.1 k.2.2] _ ⟨.refl _, rfl, indexK l hl k⟩ ?_
  conv => whnf
  refine ⟨rd_bool ?_, rfl⟩
  rcases idx_cases0 (eqK k) l with ⟨h1, h2⟩ | ⟨j, x, h1, hx, h2⟩
  · rw [h1, List.find?_eq_none] at *
    exact (List.any_eq_false.2 h2).symm ▸ rfl
  · rw [h1]
    have := List.any_eq_true.2 ⟨x, List.mem_of_find?_eq_some h2, List.find?_some h2⟩
    rw [this]
    simp
def litE (ks : List (Int × Int × Int)) (e : En) : Bool := ks.any (eqK (keyE e))
set_option maxRecDepth 100000 in
theorem purge1 (ks : List (Int × Int × Int)) (hk : ks.length ≤ 4611686018427387904) (e : En) : Contract Try.prog G0 90 [entV e, .d (.ptr [.list 3 (rowsK ks)] 0)] [] (fun r s => r = .d (.bool (!litE ks e)) ∧ s = []) := by
  refine run90 0 [] rfl rfl ?_
  conv => whnf
  refine .scal [.d (.list 3 (rowsK ks)), latV e.fl e.dr e.gn] _ ⟨.refl _, rfl, containsK ks hk (keyE e)⟩ ?_
  conv => whnf
  exact ⟨rfl, rfl⟩
set_option maxRecDepth 100000 in
theorem deleteFunc_nil (f : Nat) (cs : List DV) (p : En → Bool) (hf : ∀ x, Contract Try.prog G0 f [entV x, .d (.ptr cs 0)] [] (fun r t => r = .d (.bool (p x)) ∧ t = [])) :
    Contract Try.prog G0 89 [.d (.list 5 []), .fn f [.d (.ptr cs 0)]] [] (fun r t => r = .d (.list 5 []) ∧ t = []) := by
  refine run89 0 [] rfl rfl ?_
  conv => whnf
  refine .scal [.d (.list 5 []), .fn f [.d (.ptr cs 0)]] (.d (.int .i64 (-1))) ⟨.refl _, rfl, index96 [] (by simp) p f cs hf⟩ ?_
  conv => whnf
  exact ⟨rfl, rfl⟩
/-- What stays lit. -/
def stayL (ks : List (Int × Int × Int)) (l : List En) : List En := l.filter (litE ks)
set_option maxRecDepth 100000 in
theorem purge_nil (cnt fdr hop : Int) (mem : List Int) (hm : mem.length ≤ 100000) (ks : List (Int × Int × Int)) (hk : ks.length ≤ 100000) : Contract Try.prog G0 62 [awG cnt fdr hop mem [], .d (.list 3 (rowsK ks))] [] (fun r t => r = awG cnt fdr hop mem [] ∧ t = []) := by
  refine run62 0 [2] rfl rfl ?_
  conv => whnf
  refine .obj rfl ?_
  conv => whnf
  refine ⟨_, _, ⟨WkL.refl _, own_nil cnt fdr hop mem hm⟩, fun res s1 h => ?_⟩
  obtain ⟨rfl, rfl⟩ := h
  conv => whnf
  refine .ghost (GV.freeze 1 rfl (by simp) (by repeat' first | exact trivial | apply And.intro | decide | (simp; done) | omega) (by repeat' first | exact trivial | apply And.intro)) (.go wk62 [] ?_)
  conv => whnf
  refine .obj rfl ?_
  conv => whnf
  refine ⟨_, _, ⟨WkL.refl _, deleteFunc_nil 90 [.list 3 (rowsK ks)] (fun e => !litE ks e) fun e => purge1 ks (by omega) e⟩, fun res s1 h => ?_⟩
  obtain ⟨rfl, rfl⟩ := h
  conv => whnf
  exact ⟨rfl, rfl⟩
set_option maxRecDepth 100000 in
theorem purge_cons (cnt fdr hop : Int) (mem : List Int) (hm : mem.length ≤ 100000) (e0 : En) (l0 : List En) (hl : l0.length + 1 ≤ 1000) (hb : ∀ e ∈ e0 :: l0, e.bids.length ≤ 100000) (ks : List (Int × Int × Int)) (hk : ks.length ≤ 100000) :
    Contract Try.prog G0 62 [awG cnt fdr hop mem (e0 :: l0), .d (.list 3 (rowsK ks))] [] (fun r t => ∃ cap tl, (stayL ks (e0 :: l0)).length ≤ cap ∧ r = rgV cnt fdr hop mem (.slc (.g 0) 5 0 (stayL ks (e0 :: l0)).length cap) ∧ t = [(0, .row 5 (rowsE (stayL ks (e0 :: l0)) ++ tl))]) := by
  refine run62 0 [2] rfl rfl ?_
  conv => whnf
  refine .obj rfl ?_
  conv => whnf
  refine ⟨_, _, ⟨WkL.refl _, own_cons cnt fdr hop mem hm e0 l0 (by omega) hb⟩, fun res s1 h => ?_⟩
  obtain ⟨cap, hc, rfl, rfl⟩ := h
  generalize hle : e0 :: l0 = l at hb
  have hll : l.length = l0.length + 1 := by rw [← hle]; rfl
  rw [← hll] at hc ⊢
  conv => whnf
  have hrl := rowsE_len l
  have hkeep : keepL (fun e => !litE ks e) l = stayL ks l := by
    unfold keepL stayL
    congr 1
    funext e
    simp
  have hdf := deleteFunc l (by omega) cap hc (fun e => !litE ks e) 90 [.list 3 (rowsK ks)] fun e => purge1 ks (by omega) e
  rw [hkeep] at hdf
  refine .ghost (GV.freeze 1 rfl (by simp) (by repeat' first | exact trivial | apply And.intro | decide | (simp; done) | omega) (by repeat' first | exact trivial | apply And.intro)) (.go wk62 [] ?_)
  conv => whnf
  refine .obj rfl ?_
  conv => whnf
  refine ⟨_, _, ⟨WkL.refl _, hdf⟩, fun res s1 h => ?_⟩
  obtain ⟨tl, rfl, rfl⟩ := h
  conv => whnf
  have hst : (stayL ks l).length ≤ l.length := List.length_filter_le _ _
  exact ⟨cap, tl, by omega, rfl, rfl⟩
/-- As data. -/
theorem purge (cnt fdr hop : Int) (mem : List Int) (hm : mem.length ≤ 100000) (l : List En) (hl : l.length ≤ 1000) (hb : ∀ e ∈ l, e.bids.length ≤ 100000) (ks : List (Int × Int × Int)) (hk : ks.length ≤ 100000) :
    Contract Try.prog G0 62 [awG cnt fdr hop mem l, .d (.list 3 (rowsK ks))] [] (fun r t => r = awG cnt fdr hop mem (stayL ks l) ∧ t = []) := by
  cases l with
  | nil => exact purge_nil cnt fdr hop mem hm ks hk
  | cons e0 l0 =>
    refine (purge_cons cnt fdr hop mem hm e0 l0 (by simpa using hl) hb ks hk).told fun r t hr => ?_
    obtain ⟨cap, tl, hc, rfl, rfl⟩ := hr
    refine ⟨awG cnt fdr hop mem (stayL ks (e0 :: l0)), ?_, rfl, rfl, rfl⟩
    have hrl := rowsE_len (stayL ks (e0 :: l0))
    refine GV.trans (GV.freeze 0 rfl (by simp) (by repeat' first | exact trivial | apply And.intro | decide | (simp; done) | (simp; omega) | omega) (by repeat' first | exact trivial | apply And.intro)) (GV.tidied [0] ?_)
    conv => whnf
    rw [List.drop_zero, List.take_left' (by omega)]
    exact ⟨rfl, rfl⟩
end Go.Proofs.Ytkenimmellonjaa
/- Seat r2: those that are not named go: what the loop over the map does. -/
namespace Go.Proofs.Ytkenimmellonjaa
open Go.RowKit Go.Maps Go.Shelf
open Go.ChangeMaps (setBlock)
open Go.Pv
/-- An entry: its latch, its stamp. -/
def mkE (z : Kl × Nat) : MapEntry := ⟨.agg #[.int .i64 z.1.1, .int .i64 z.1.2.1], encK z.1, z.2⟩
theorem kval_dxC (c : Int × Int) : kval (dxC c) = .agg #[.int .i64 c.1, .int .i64 c.2] := rfl
/-- 'delete' of a key that is there. -/
theorem run_drop (W : World) (b : Nat) (zs : List (Kl × Nat)) (clock : Nat) (hb : W.heap[b]? = some (.map (zs.map mkE).toArray clock)) (hk : (zs.map fun z => keyC z.1).Nodup) (z : Kl × Nat) (hz : z ∈ zs) (ty : TypeId) :
    ∃ j, zs[j]? = some z ∧ (Builtin.delete_ #[31, 36] ty #[.map (some b), .agg #[.int .i64 z.1.1, .int .i64 z.1.2.1]]).run Try.prog W = .ok (.tuple #[]) (setBlock W b (.map ((zs.eraseIdx j).map mkE).toArray clock)) := by
  have hf := flat_find (P := Try.prog) (T := T) (w := W) tabOK flat36 stood36 (a := dxC (keyC z.1)) (dxC_good _) (zs.map mkE) (zs.map fun z => dxC (keyC z.1)) (by simp) (fun i e d he hd => by
    rw [List.getElem?_map] at he hd
    cases hi : zs[i]? with
    | none => rw [hi] at he; cases he
    | some y =>
      rw [hi] at he hd
      cases he
      cases hd
      exact ⟨rfl, dxC_good _⟩)
  rcases hf with ⟨_, hno⟩ | ⟨j, e, hrun, he, hd⟩
  · exact absurd rfl (hno (dxC (keyC z.1)) (List.mem_map.2 ⟨z, hz, rfl⟩))
  · rw [List.getElem?_map] at hd he
    cases hj : zs[j]? with
    | none => rw [hj] at hd; cases hd
    | some y =>
      rw [hj] at hd he
      have hkey : keyC y.1 = keyC z.1 := dxC_inj _ _ (by simpa using hd)
      obtain ⟨i, hi⟩ := List.mem_iff_getElem?.1 hz
      have hij : i = j := by
        have h1 := (List.getElem?_eq_some_iff.1 hi).1
        have h2 : (zs.map fun z => keyC z.1)[i]? = (zs.map fun z => keyC z.1)[j]? := by
          rw [List.getElem?_map, List.getElem?_map, hi, hj]; simp [hkey]
        exact (List.getElem?_inj (by simpa using h1) hk).1 h2
      subst hij
      rw [hi] at hj
      cases hj
      refine ⟨i, hi, ?_⟩
      have hun : (underlying 31).run Try.prog W = .ok (.map 36 38) W := run_underlying Try.underlying31 W
      have hch := flat_check (P := Try.prog) (T := T) (w := W) tabOK flat36 (a := dxC (keyC z.1)) (dxC_good _)
      rw [kval_dxC] at hch hrun
      have hch : ∀ em, (Instr.checkKey em 10000 36 (.agg #[.int .i64 z.1.1, .int .i64 z.1.2.1])).run Try.prog W = .ok () W := hch
      have hrun : (Instr.findKey 36 (.agg #[.int .i64 z.1.1, .int .i64 z.1.2.1]) (zs.map mkE)).run Try.prog W = .ok (some (i, e.val)) W := hrun
      unfold Builtin.delete_
      have hset : ∀ o, (setObj b o).run Try.prog W = .ok () (setBlock W b o) := fun o => by simp [setObj, Sem.run, hb, setBlock]
      have hme := map_erase mkE zs i
      simp [Sem.run_bind, hun, run_getMap hb, hch, hrun, Result.andThen, hset, hme]
/-- Which entries are there still: those that have not been met, and those that stay. -/
def cur (p : Kl → Bool) (S : List Nat) (z : Kl × Nat) : Bool := !S.contains z.2 || p z.1
def esOf (p : Kl → Bool) (S : List Nat) (zs : List (Kl × Nat)) : Array MapEntry := ((zs.filter (cur p S)).map mkE).toArray
/-- Under way. -/
structure Keeping (w wr : World) (b r : Nat) (zs : List (Kl × Nat)) (clock : Nat) (p : Kl → Bool) (S : List Nat) (c0 : Nat) : Prop where
  map : wr.heap[b]? = some (.map (esOf p S zs) clock)
  iter : wr.heap[r]? = some (.mapIter (some b) clock S.toArray c0)
  le : clock ≤ c0
  nd : S.Nodup
  sub : ∀ s ∈ S, ∃ z ∈ zs, z.2 = s
  gr : w.grownBy wr (some b)
def goneN (p : Kl → Bool) (S : List Nat) (zs : List (Kl × Nat)) : Nat := (zs.filter fun z => S.contains z.2 && !p z.1).length
theorem stamp_eq {zs : List (Kl × Nat)} (hs : (zs.map (·.2)).Nodup) {y z : Kl × Nat} (hy : y ∈ zs) (hz : z ∈ zs) (h : y.2 = z.2) : y = z := key_uniq (κ := fun z : Kl × Nat => z.2) hs hy hz h
theorem has_snoc {S : List Nat} {a b : Nat} : (S ++ [a]).contains b = (S.contains b || (a == b)) := by
  rw [Bool.eq_iff_iff, Bool.or_eq_true, List.contains_iff_mem, List.contains_iff_mem, List.mem_append, List.mem_singleton, beq_iff_eq]
  constructor
  · rintro (h | h)
    · exact .inl h
    · exact .inr h.symm
  · rintro (h | h)
    · exact .inl h
    · exact .inr h.symm
theorem filter_one {f g : Kl × Nat → Bool} {z : Kl × Nat} : ∀ {zs : List (Kl × Nat)}, (zs.map (·.2)).Nodup → z ∈ zs → f z = false → g z = true → (∀ y ∈ zs, y.2 ≠ z.2 → g y = f y) → (zs.filter g).length = (zs.filter f).length + 1
  | [], _, hz, _, _, _ => by cases hz
  | x :: r, hs, hz, hf, hg, h => by
    rw [List.map_cons, List.nodup_cons] at hs
    rcases List.mem_cons.1 hz with rfl | hz
    · have : r.filter g = r.filter f := List.filter_congr fun y hy => h y (List.mem_cons_of_mem _ hy) fun e => hs.1 (e ▸ List.mem_map_of_mem hy)
      rw [List.filter_cons, List.filter_cons, hf, hg, this]
      simp
    · have hx : x.2 ≠ z.2 := fun e => hs.1 (e ▸ List.mem_map_of_mem hz)
      have ih := filter_one hs.2 hz hf hg fun y hy => h y (List.mem_cons_of_mem _ hy)
      rw [List.filter_cons, List.filter_cons, h x (List.mem_cons_self ..) hx]
      cases f x
      · simpa using ih
      · simp only [if_true, List.length_cons, ih]
theorem erase_filter : ∀ {l : List (Kl × Nat)} {j : Nat} {z : Kl × Nat}, (l.map (·.2)).Nodup → l[j]? = some z → l.eraseIdx j = l.filter fun y => y.2 != z.2
  | [], j, z, _, h => by simp at h
  | x :: r, 0, z, hs, h => by
    rw [List.map_cons, List.nodup_cons] at hs
    simp at h
    subst h
    rw [List.filter_cons]
    simp only [bne_self_eq_false, Bool.false_eq_true, if_false, List.eraseIdx_cons_zero]
    refine (List.filter_eq_self.2 fun y hy => ?_).symm
    have : y.2 ≠ x.2 := fun e => hs.1 (e ▸ List.mem_map_of_mem hy)
    simpa using this
  | x :: r, j + 1, z, hs, h => by
    rw [List.map_cons, List.nodup_cons] at hs
    have h : r[j]? = some z := by simpa using h
    have hx : x.2 ≠ z.2 := fun e => hs.1 (e ▸ List.mem_map_of_mem (List.mem_of_getElem? h))
    rw [List.eraseIdx_cons_succ, erase_filter hs.2 h, List.filter_cons]
    simp [hx]
theorem cur_keep {p : Kl → Bool} {S : List Nat} {zs : List (Kl × Nat)} {z : Kl × Nat} (hs : (zs.map (·.2)).Nodup) (hz : z ∈ zs) (hp : p z.1 = true) : zs.filter (cur p (S ++ [z.2])) = zs.filter (cur p S) := List.filter_congr fun y hy => by
  unfold cur
  rw [has_snoc]
  by_cases h : y.2 = z.2
  · rw [stamp_eq hs hy hz h, hp]; simp
  · have : (z.2 == y.2) = false := by simpa using fun e => h e.symm
    rw [this, Bool.or_false]
theorem cur_drop {p : Kl → Bool} {S : List Nat} {zs : List (Kl × Nat)} {z : Kl × Nat} (hs : (zs.map (·.2)).Nodup) (hz : z ∈ zs) (hp : p z.1 = false) : zs.filter (cur p (S ++ [z.2])) = (zs.filter (cur p S)).filter fun y => y.2 != z.2 := by
  rw [List.filter_filter]
  refine List.filter_congr fun y hy => ?_
  unfold cur
  rw [has_snoc]
  by_cases h : y.2 = z.2
  · rw [stamp_eq hs hy hz h, hp]; simp
  · have : (z.2 == y.2) = false := by simpa using fun e => h e.symm
    rw [this, Bool.or_false]
    have : (y.2 != z.2) = true := by simpa using h
    rw [this, Bool.true_and]
theorem gone_keep {p : Kl → Bool} {S : List Nat} {zs : List (Kl × Nat)} {z : Kl × Nat} (hs : (zs.map (·.2)).Nodup) (hz : z ∈ zs) (hp : p z.1 = true) : goneN p (S ++ [z.2]) zs = goneN p S zs := congrArg List.length (List.filter_congr fun y hy => by
  rw [has_snoc]
  by_cases h : y.2 = z.2
  · rw [stamp_eq hs hy hz h, hp]; simp
  · have : (z.2 == y.2) = false := by simpa using fun e => h e.symm
    rw [this, Bool.or_false])
theorem gone_drop {p : Kl → Bool} {S : List Nat} {zs : List (Kl × Nat)} {z : Kl × Nat} (hs : (zs.map (·.2)).Nodup) (hz : z ∈ zs) (hzS : z.2 ∉ S) (hp : p z.1 = false) : goneN p (S ++ [z.2]) zs = goneN p S zs + 1 :=
  filter_one hs hz (by simp [hzS]) (by rw [hp]; simp) fun y hy h => by
    have : (z.2 == y.2) = false := by simpa using fun e => h e.symm
    rw [has_snoc, this, Bool.or_false]
theorem Keeping.seen {w wr : World} {b r clock c0 : Nat} {zs : List (Kl × Nat)} {p : Kl → Bool} {S : List Nat} (h : Keeping w wr b r zs clock p S c0) : seenAt wr r = S.length := by
  unfold seenAt
  rw [h.iter]
  simp
theorem Keeping.len {w wr : World} {b r clock c0 : Nat} {zs : List (Kl × Nat)} {p : Kl → Bool} {S : List Nat} (h : Keeping w wr b r zs clock p S c0) : S.length ≤ zs.length := by
  have := nd_leV h.nd (b := zs.map (·.2)) fun s hs => by
    obtain ⟨z, hz, rfl⟩ := h.sub s hs
    exact List.mem_map_of_mem hz
  simpa using this
theorem gone_le (p : Kl → Bool) (S : List Nat) (zs : List (Kl × Nat)) : goneN p S zs ≤ zs.length := List.length_filter_le ..
set_option maxRecDepth 100000 in
set_option maxHeartbeats 2000000 in
theorem keepW (n : Nat) (hn : 2 ≤ n) (c b : Nat) (tt : TypeId) (zs : List (Kl × Nat)) (clock : Nat) (w : World) (v1 : Value) (p : Kl → Bool)
    (hc : w.heap[c]? = some (.cells #[.map (some b)] tt (0, 0))) (hb : w.heap[b]? = some (.map (zs.map mkE).toArray clock)) (hk : (zs.map fun z => keyC z.1).Nodup) (hs : (zs.map (·.2)).Nodup) (ho : ∀ z ∈ zs, z.2 < clock) (hzl : zs.length ≤ 100000)
    (hcont : ∀ W, w.grownBy W (some b) → ∀ k : Kl, Calls Try.prog 78 #[v1, encK k] W fun e w' => e = .returned (.bool (p k)) ∧ Below W.heap.size W w') :
    CallsIn Fence.wide n Try.prog 44 #[.pointer (some ⟨c, 0, none⟩), v1] w fun e w' => e = .returned (.int .i64 ((zs.filter fun z => !p z.1).length : Int)) ∧ w'.heap[b]? = some (.map ((zs.filter fun z => p z.1).map mkE).toArray clock) ∧ w.grownBy w' (some b) := by
  refine callsIn_of_wp Try.func44 rfl trivial ?_ rfl
  simp only [Try.ntmps44, List.size_toArray, List.length_cons, List.length_nil, Nat.reduceAdd, Nat.reduceSub, Array.replicate_succ, Array.replicate_zero, List.push_toArray, List.append_toArray, List.nil_append, List.cons_append]
  have hbl := (Array.getElem?_eq_some_iff.1 hb).1
  have hcl := (Array.getElem?_eq_some_iff.1 hc).1
  have hc0 : w.cell? ⟨c, 0, none⟩ = some (.map (some b)) := by simp [World.cell?, hc]
  gi_wp2_with (first
    | (gi_at_range; refine range_raw rfl _ 31 rfl 36 38 Try.underlying31 b _ clock rfl hb ?_)
    | gi_in)
  go_frame
  gi_loopw [5] (fun u5 wr => ∃ (S : List Nat) (c0 : Nat), Keeping w wr b w.heap.size zs clock p S c0 ∧ u5 = .int .i64 (goneN p S zs : Int))
    (fun _ wr => zs.length - seenAt wr w.heap.size)
  case atStart =>
    refine ⟨[], clock, ⟨?_, World.alloc_heap_new w _, Nat.le_refl _, .nil, by simp, World.grownBy_alloc w _ _⟩, ?_⟩
    · rw [Below.heap_alloc w _ b hbl, hb]
      have : zs.filter (cur p []) = zs := List.filter_eq_self.2 fun z _ => rfl
      rw [esOf, this]
    · have : zs.filter (fun z => List.contains [] z.2 && !p z.1) = [] := List.filter_eq_nil_iff.2 fun z _ => by simp
      rw [goneN, this]
      rfl
  case round =>
    obtain ⟨S, c0, hK, rfl⟩ := hrel
    have hKm := hK.map
    have hmem : ∀ e ∈ esOf p S zs, ∃ z ∈ zs.filter (cur p S), mkE z = e := fun e he => List.mem_map.1 (List.mem_toArray.1 he)
    have hold : ∀ x ∈ (esOf p S zs).toList, x.born < clock := fun x hx => by
      obtain ⟨z, hz, rfl⟩ := hmem x (Array.mem_toList_iff.1 hx)
      exact ho z (List.mem_filter.1 hz).1
    gi_wp2_with (first
      | (gi_at_next; refine next_raw rfl _ rfl b w.heap.size clock c0 S.toArray (esOf p S zs) clock rfl hK.iter hKm hold hK.le ?_ ?_)
      | gi_in)
    · intro hall
      have hin : ∀ z ∈ zs, p z.1 = false → S.contains z.2 = true := fun z hz hp => by
        cases hS : S.contains z.2 with
        | true => rfl
        | false =>
          have hz2 : z ∈ zs.filter (cur p S) := List.mem_filter.2 ⟨hz, by unfold cur; rw [hS]; rfl⟩
          have := hall (mkE z) (List.mem_toArray.2 (List.mem_map_of_mem hz2))
          have h1 : z.2 ∈ S := by simpa [mkE] using this
          have h2 : S.contains z.2 = true := List.contains_iff_mem.2 h1
          rw [hS] at h2
          cases h2
      have hcur : zs.filter (cur p S) = zs.filter fun z => p z.1 := List.filter_congr fun z hz => by
        unfold cur
        cases hp : p z.1 with
        | true => simp
        | false => rw [hin z hz hp]; rfl
      have hgone : goneN p S zs = (zs.filter fun z => !p z.1).length := congrArg List.length (List.filter_congr fun z hz => by
        cases hp : p z.1 with
        | true => simp
        | false => rw [hin z hz hp]; rfl)
      gi_wp2
      go_ret
      rw [hgone]
      refine ⟨rfl, ?_, hK.gr⟩
      rw [hKm, esOf, hcur]
    · intro e he hes w1 hw1
      obtain ⟨z, hz, rfl⟩ := hmem e he
      have hzS : z.2 ∉ S := by simpa [mkE] using hes
      have hrb : w.heap.size ≠ b := by omega
      have e2 : S.toArray.push (mkE z).born = (S ++ [z.2]).toArray := by simp [mkE]
      rw [show (mkE z).born = z.2 from rfl]
      have hh1 : w1.heap = wr.heap := by rcases hw1 with rfl | rfl <;> rfl
      have hrl := (Array.getElem?_eq_some_iff.1 hK.iter).1
      have hit2 : (setBlock w1 w.heap.size (.mapIter (some b) clock (S ++ [z.2]).toArray clock)).heap[w.heap.size]? = some (.mapIter (some b) clock (S ++ [z.2]).toArray clock) := by
        show (w1.heap.setIfInBounds _ _)[_]? = _
        rw [Array.getElem?_setIfInBounds_self_of_lt (by rw [hh1]; exact hrl)]
      have hmp2 : (setBlock w1 w.heap.size (.mapIter (some b) clock (S ++ [z.2]).toArray clock)).heap[b]? = some (.map (esOf p S zs) clock) := by
        show (w1.heap.setIfInBounds _ _)[_]? = _
        rw [Array.getElem?_setIfInBounds_ne hrb, hh1]; exact hKm
      have hg2 : w.grownBy (setBlock w1 w.heap.size (.mapIter (some b) clock (S ++ [z.2]).toArray clock)) (some b) := by
        have hg := hK.gr
        have hx : w1.os = wr.os ∧ w1.output = wr.output ∧ w1.tape = wr.tape := by rcases hw1 with rfl | rfl <;> exact ⟨rfl, rfl, rfl⟩
        refine ⟨hx.1.trans hg.os, hx.2.2.trans hg.tape, hx.2.1.trans hg.output, ?_, fun k hk hkb => ?_⟩
        · show w.heap.size ≤ (w1.heap.setIfInBounds _ _).size
          rw [Array.size_setIfInBounds, hh1]; exact hg.size
        · show (w1.heap.setIfInBounds _ _)[k]? = _
          rw [Array.getElem?_setIfInBounds_ne (by omega), hh1]; exact hg.block k hk hkb
      have hne : ((esOf p S zs).toList.map (·.born)).Nodup := by
        have h1 : ((zs.filter (cur p S)).map (·.2)).Nodup := hs.sublist (List.filter_sublist.map _)
        unfold esOf
        simpa [List.map_map, Function.comp_def, mkE] using h1
      have hen := run_entry_at (P := Try.prog) _ w.heap.size b clock S.toArray (esOf p S zs) clock (mkE z) (by rw [e2]; exact hit2) hmp2 (Array.mem_toList_iff.2 he) hne
      generalize setBlock w1 w.heap.size (.mapIter (some b) clock (S ++ [z.2]).toArray clock) = w2 at hit2 hmp2 hg2 hen
      unfold mkE encK at hen
      unfold mkE encK
      have hg3 : w.grownBy ((w2.alloc (.cells #[.int .i64 z.1.1, .int .i64 z.1.2.1] 36)).alloc (.cells #[.int .i64 z.1.1, .int .i64 z.1.2.1, .int .i64 z.1.2.2] 38)) (some b) :=
        (hg2.andThen (World.grownBy_alloc w2 _ none) (fun j e => by cases e)).andThen (World.grownBy_alloc _ _ none) (fun j e => by cases e)
      have hsz2 := hg2.size
      have hc3 := hcont _ hg3 z.1
      unfold encK at hc3
      have hh3 : ∀ k, k < w2.heap.size → ((w2.alloc (.cells #[.int .i64 z.1.1, .int .i64 z.1.2.1] 36)).alloc (.cells #[.int .i64 z.1.1, .int .i64 z.1.2.1, .int .i64 z.1.2.2] 38)).heap[k]? = w2.heap[k]? := fun k hk => by
        rw [Below.heap_alloc _ _ k (by simp; omega), Below.heap_alloc _ _ k hk]
      have hx3 : ((w2.alloc (.cells #[.int .i64 z.1.1, .int .i64 z.1.2.1] 36)).alloc (.cells #[.int .i64 z.1.1, .int .i64 z.1.2.1, .int .i64 z.1.2.2] 38)).heap[w2.heap.size]? = some (.cells #[.int .i64 z.1.1, .int .i64 z.1.2.1] 36 (0, 0)) := by
        rw [Below.heap_alloc _ _ _ (by simp)]
        exact World.alloc_heap_new w2 _
      have hbl2 : b < w2.heap.size := by omega
      have hrl2 := (Array.getElem?_eq_some_iff.1 hit2).1
      gi_wp2
      refine ⟨trivial, fun _ => by omega, (callsIn_wide.2 hc3).mono ?_⟩
      rintro e w4 ⟨rfl, hB4⟩
      clear hc3 hen
      generalize ((w2.alloc (.cells #[.int .i64 z.1.1, .int .i64 z.1.2.1] 36)).alloc (.cells #[.int .i64 z.1.1, .int .i64 z.1.2.1, .int .i64 z.1.2.2] 38)) = w3 at hg3 hh3 hx3 hB4
      have hsz3 : w2.heap.size < w3.heap.size := (Array.getElem?_eq_some_iff.1 hx3).1
      have hg4 : w.grownBy w4 (some b) := hg3.andThen (row' := none) ⟨hB4.os, hB4.tape, hB4.output, hB4.size, fun k hk _ => hB4.block k hk⟩ (fun j e => by cases e)
      have hmp4 : w4.heap[b]? = some (.map (esOf p S zs) clock) := by rw [hB4.block b (by omega), hh3 b hbl2]; exact hmp2
      have hit4 : w4.heap[w.heap.size]? = some (.mapIter (some b) clock (S ++ [z.2]).toArray clock) := by rw [hB4.block _ (by omega), hh3 _ hrl2]; exact hit2
      have hx4 : w4.heap[w2.heap.size]? = some (.cells #[.int .i64 z.1.1, .int .i64 z.1.2.1] 36 (0, 0)) := by rw [hB4.block _ hsz3]; exact hx3
      have hc4 : w4.heap[c]? = some (.cells #[.map (some b)] tt (0, 0)) := by rw [hg4.block c hcl (by simpa using fun e => by rw [e, hb] at hc; cases hc)]; exact hc
      have k0 : w4.cell? ⟨c, 0, none⟩ = some (.map (some b)) := by simp [World.cell?, hc4]
      have k1 : w4.cell? ⟨w2.heap.size, 0, none⟩ = some (.int .i64 z.1.1) := by simp [World.cell?, hx4]
      have k2 : w4.cell? ⟨w2.heap.size, 1, none⟩ = some (.int .i64 z.1.2.1) := by simp [World.cell?, hx4]
      have hzz := (List.mem_filter.1 hz).1
      have hS2 : (S ++ [z.2]).Nodup := List.nodup_append.2 ⟨hK.nd, by simp, fun x hx y hy => by
        rw [List.mem_singleton] at hy
        subst hy
        exact fun e => hzS (e ▸ hx)⟩
      have hS3 : ∀ s ∈ S ++ [z.2], ∃ y ∈ zs, y.2 = s := fun s hsm => by
        rcases List.mem_append.1 hsm with h | h
        · exact hK.sub s h
        · rw [List.mem_singleton.1 h]; exact ⟨z, hzz, rfl⟩
      have hseen := hK.seen
      cases hp : p z.1 with
      | true =>
        have hK4 : Keeping w w4 b w.heap.size zs clock p (S ++ [z.2]) clock := ⟨by rw [esOf, cur_keep hs hzz hp]; exact hmp4, hit4, Nat.le_refl _, hS2, hS3, hg4⟩
        gi_wp2
        refine ⟨⟨S ++ [z.2], clock, hK4, by rw [gone_keep hs hzz hp]⟩, ?_⟩
        have h1 := hK4.seen
        have h2 := hK4.len
        rw [h1, hseen]
        simp only [List.length_append, List.length_cons, List.length_nil] at h2 ⊢
        omega
      | false =>
        obtain ⟨j, hj, hrun⟩ := run_drop w4.drew b (zs.filter (cur p S)) clock hmp4 (hk.sublist (List.filter_sublist.map _)) z hz 0
        gi_wp2
        have hel : ((zs.filter (cur p S)).map (·.2)).Nodup := hs.sublist (List.filter_sublist.map _)
        have hgr5 : w4.grownBy (setBlock w4.drew b (.map (((zs.filter (cur p S)).eraseIdx j).map mkE).toArray clock)) (some b) := by
          refine ⟨rfl, rfl, rfl, ?_, fun k _ hk => ?_⟩
          · show w4.heap.size ≤ (w4.heap.setIfInBounds b _).size
            rw [Array.size_setIfInBounds]; exact Nat.le_refl _
          · show (w4.heap.setIfInBounds b _)[k]? = _
            rw [Array.getElem?_setIfInBounds_ne (fun q => hk (by rw [q]))]
        have hb4 := (Array.getElem?_eq_some_iff.1 hmp4).1
        have hK5 : Keeping w (setBlock w4.drew b (.map (((zs.filter (cur p S)).eraseIdx j).map mkE).toArray clock)) b w.heap.size zs clock p (S ++ [z.2]) clock := by
          refine ⟨?_, ?_, Nat.le_refl _, hS2, hS3, hg4.andThen hgr5 (fun k e => .inr e)⟩
          · show (w4.heap.setIfInBounds b _)[b]? = _
            rw [Array.getElem?_setIfInBounds_self_of_lt hb4, esOf, cur_drop hs hzz hp, erase_filter hel hj]
          · show (w4.heap.setIfInBounds b _)[w.heap.size]? = _
            rw [Array.getElem?_setIfInBounds_ne (fun q => hrb q.symm)]; exact hit4
        have hgl := gone_le p S zs
        have hgd := gone_drop hs hzz hzS hp
        have h1 := hK5.seen
        have h2 := hK5.len
        gi_region
        clear hrun hgr5
        generalize setBlock w4.drew b (.map (((zs.filter (cur p S)).eraseIdx j).map mkE).toArray clock) = w5 at hK5 h1
        gi_wp2
        refine ⟨⟨S ++ [z.2], clock, hK5, by rw [hgd]; rfl⟩, ?_⟩
        rw [h1, hseen]
        simp only [List.length_append, List.length_cons, List.length_nil] at h2 ⊢
        omega
end Go.Proofs.Ytkenimmellonjaa
/- Seat r2: Keep as a Contract. -/
namespace Go.Proofs.Ytkenimmellonjaa
open Go.RowKit Go.Shelf
open Go.Pv
theorem ents_zip {ents : Array MapEntry} {l : List Kl} (hv : ents.toList.map (·.val) = l.map encK) (hk : ents.toList.map (·.key) = l.map fun k => Value.agg #[.int .i64 k.1, .int .i64 k.2.1]) :
    ∃ zs : List (Kl × Nat), zs.map (·.1) = l ∧ zs.map (·.2) = ents.toList.map (·.born) ∧ ents = (zs.map mkE).toArray := by
  have key : ∀ (es : List MapEntry) (l : List Kl), es.map (·.val) = l.map encK → es.map (·.key) = l.map (fun k => Value.agg #[.int .i64 k.1, .int .i64 k.2.1]) → ∃ zs : List (Kl × Nat), zs.map (·.1) = l ∧ zs.map (·.2) = es.map (·.born) ∧ es = zs.map mkE := by
    intro es
    induction es with
    | nil =>
      intro l h1 _
      have : l = [] := List.eq_nil_of_length_eq_zero (by simpa using (congrArg List.length h1).symm)
      subst this
      exact ⟨[], rfl, rfl, rfl⟩
    | cons e r ih =>
      intro l h1 h2
      cases l with
      | nil => simp at h1
      | cons k q =>
        simp only [List.map_cons, List.cons.injEq] at h1 h2
        obtain ⟨zs, q1, q2, q3⟩ := ih q h1.2 h2.2
        refine ⟨(k, e.born) :: zs, by simp [q1], by simp [q2], ?_⟩
        rw [List.map_cons, ← q3]
        congr 1
        cases e
        simp only at h1 h2
        simp only [mkE, h1.1, h2.1]
  obtain ⟨zs, h1, h2, h3⟩ := key ents.toList l hv hk
  exact ⟨zs, h1, h2, by rw [← h3]⟩
/-- The second of two blocks has turned. -/
theorem St.two {g : Nat → Option Nat} {F U : Nat → Prop} {a0 a1 a1' : AB} {w w' : World} {b : Nat} (hS : St ⟨fun _ => none, g⟩ F U [] [(0, a0), (1, a1)] w) (h0 : a0 ≠ .dead) (h1 : a1 ≠ .dead) (hb : g 1 = some b) (hg : w.grownBy w' (some b)) (hX : Ext U w w') (hab : RB ⟨fun _ => none, g⟩ F w' b a1') :
    St ⟨fun _ => none, g⟩ F U [] [(0, a0), (1, a1')] w' := by
  have hc : ∀ i ab, (i, ab) ∈ [(0, a0), (1, a1')] → (i = 0 ∧ ab = a0) ∨ (i = 1 ∧ ab = a1') := by
    intro i ab h
    simp at h
    exact h
  refine ⟨fun r ab x hr hm => ?_, fun r r' u v x q1 q2 d1 d2 m1 m2 => ?_, fun r u x q1 d1 m1 hu => ?_, by simp, hS.FU, fun x hx => Nat.lt_of_lt_of_le (hS.Ult x hx) hg.size, fun _ _ => rfl, fun i ab h => ?_, fun i h => ?_⟩
  · cases r with
    | l k => cases hm
    | g i =>
      rcases hc i ab hr with ⟨rfl, rfl⟩ | ⟨rfl, rfl⟩
      · have hrb := hS.rb (.g 0) ab x (by simp [Here]) hm
        have hne : x ≠ b := fun e => by
          subst e
          have := hS.inj (.g 0) (.g 1) ab a1 x (by simp [Here]) (by simp [Here]) h0 h1 hm hb
          cases this
        exact hrb.mono (.refl _) (fun _ h => h) hS.FU hX (fun hd => hg.block x (RB.lt hrb hd) (fun e => hne (by cases e; rfl)))
      · have : x = b := by
          have hm : g 1 = some x := hm
          rw [hb] at hm
          exact (Option.some.inj hm).symm
        subst this
        exact hab
  · cases r with
    | l k => cases m1
    | g i =>
      cases r' with
      | l k => cases m2
      | g j =>
        rcases hc i u q1 with ⟨rfl, rfl⟩ | ⟨rfl, rfl⟩ <;> rcases hc j v q2 with ⟨rfl, rfl⟩ | ⟨rfl, rfl⟩
        · rfl
        · exact hS.inj (.g 0) (.g 1) _ a1 x (by simp [Here]) (by simp [Here]) h0 h1 m1 m2
        · exact hS.inj (.g 1) (.g 0) a1 _ x (by simp [Here]) (by simp [Here]) h1 h0 m1 m2
        · rfl
  · cases r with
    | l k => cases m1
    | g i =>
      rcases hc i u q1 with ⟨rfl, rfl⟩ | ⟨rfl, rfl⟩
      · exact hS.nU (.g 0) _ x (by simp [Here]) h0 m1 hu
      · exact hS.nU (.g 1) a1 x (by simp [Here]) h1 m1 hu
  · rcases hc i ab h with ⟨rfl, _⟩ | ⟨rfl, _⟩
    · exact hS.tot 0 a0 (by simp)
    · exact hS.tot 1 a1 (by simp)
  · refine hS.gdom i fun ab h2 => ?_
    simp at h2
    rcases h2 with ⟨rfl, _⟩ | ⟨rfl, _⟩
    · exact h a0 (by simp)
    · exact h a1' (by simp)
/-- A call that is told of nothing: what lay lies as it lay. -/
theorem Contract.alone {P : Program} {f : Nat} {args : List AV} {R : AV → List (Nat × AB) → Prop} (h : Contract P G0 f args [] R) {F : Nat → Prop} {W : World} {vals : List Value} (hF : ∀ b, F b → b < W.heap.size) (hl : vals.length = args.length)
    (hv : ∀ (j : Nat) (x : AV) (v : Value), args[j]? = some x → vals[j]? = some v → RV ⟨fun _ => none, fun _ => none⟩ F W x v) :
    Calls P f vals.toArray W fun e w' => ∃ v res s' g' F', e = .returned v ∧ R res s' ∧ RV ⟨fun _ => none, g'⟩ F' w' res v ∧ Below W.heap.size W w' := by
  have hS : St ⟨fun _ => none, fun _ => none⟩ F (fun b => b < W.heap.size) [] [] W :=
    ⟨fun r ab b hr hm => (by cases r <;> cases hm), fun r r' a b x hr _ _ _ hm => (by cases r <;> cases hm), fun r ab b hr _ hm => (by cases r <;> cases hm), by simp, hF, fun _ h => h, fun _ _ => rfl, fun _ _ h => (by cases h), fun _ _ => rfl⟩
  refine (h.2 (fun _ => none) F (fun b => b < W.heap.size) W vals hS (fun g cs h => by cases h) hl hv).mono ?_
  rintro e w' ⟨v, res, s', g', F', U', he, hr, _, _, _, _, _, hX, _, hrv⟩
  exact ⟨v, res, s', g', F', he, hr, hrv, ⟨hX.os, hX.tape, hX.output, hX.size, fun k hk => hX.block k hk⟩⟩
set_option maxHeartbeats 1000000 in
theorem keep44 (l : List Kl) (hn : Ks l) (hl : l.length ≤ 100000) (ks : List Kl) (hk : ks.length ≤ 100000) : Contract Try.prog G0 44 [.ref (.g 0) 0, .d (.list 3 (rowsK ks))] (setS l) (fun r t => r = .d (.int .i64 ((l.filter fun k => !ks.any (eqK k)).length : Int)) ∧ t = setS (l.filter fun k => ks.any (eqK k))) := by
  refine ⟨enters_of Try.func44 (by kernel_rfl) rfl, fun g F U w vals hS hG hlv hv => ?_⟩
  obtain ⟨v, v1, rfl⟩ : ∃ v v1, vals = [v, v1] := by
    match vals, hlv with
    | [v, v1], _ => exact ⟨v, v1, rfl⟩
  have hrv := hv 0 _ v rfl rfl
  have hrv1 := hv 1 _ v1 rfl rfl
  obtain ⟨c, hgc, rfl⟩ : ∃ c, g 0 = some c ∧ v = .pointer (some ⟨c, 0, none⟩) := by
    cases hrv with
    | ref _ _ b hb => exact ⟨b, hb, rfl⟩
  obtain ⟨arr, tt, hc, hsz, hc1⟩ := hS.rb (.g 0) (.cells [.mp (.g 1)]) c (by simp [Here, setS]) hgc
  have hsz : arr.size = 1 := hsz
  obtain ⟨u, hu⟩ : ∃ u, arr[0]? = some u := ⟨_, Array.getElem?_eq_getElem (by omega)⟩
  have hru := (hc1 0 _ u rfl hu).2
  obtain ⟨b, hgb, rfl⟩ : ∃ b, g 1 = some b ∧ u = .map (some b) := by
    cases hru with
    | mp _ b h => exact ⟨b, h, rfl⟩
  obtain rfl : arr = #[.map (some b)] := by
    apply Array.ext'
    match h : arr.toList, (show arr.toList.length = 1 by simpa using hsz) with
    | [x], _ =>
      have : arr.toList[0]? = some (.map (some b)) := by rw [Array.getElem?_toList]; exact hu
      rw [h] at this
      simpa using this
  obtain ⟨ents, clock, hb, h2, h3, h4, h5⟩ := hS.rb (.g 1) (.dmap (encL l)) b (by simp [Here, setS]) hgb
  obtain ⟨zs, z1, z2, rfl⟩ := ents_zip (vals_of h2 h3) (keys_of h2 h3)
  have hkz : (zs.map fun z => keyC z.1).Nodup := by
    have : zs.map (fun z => keyC z.1) = l.map keyC := by rw [← z1, List.map_map]; rfl
    rw [this]; exact hn
  have hsz2 : (zs.map (·.2)).Nodup := by rw [z2]; exact borns_of h5
  have hoz : ∀ z ∈ zs, z.2 < clock := fun z hz => by
    obtain ⟨i, hi⟩ := List.mem_iff_getElem?.1 hz
    exact h4 i (mkE z) (by rw [List.getElem?_toArray, List.getElem?_map, hi]; rfl)
  have hzl : zs.length ≤ 100000 := by rw [← z1, List.length_map] at hl; exact hl
  have hnU : ¬ U b := hS.nU (.g 1) (.dmap (encL l)) b (by simp [Here, setS]) (by simp) hgb
  have hFb : ∀ x, F x → x < w.heap.size ∧ x ≠ b := fun x hx => ⟨hS.Ult x (hS.FU x hx), fun e => hnU (e ▸ hS.FU x hx)⟩
  have hcont : ∀ W, w.grownBy W (some b) → ∀ k : Kl, Calls Try.prog 78 #[v1, encK k] W fun e w' => e = .returned (.bool (ks.any (eqK k))) ∧ Below W.heap.size W w' := by
    intro W hg k
    have hcon := (containsK ks (by omega) k)
    refine (Contract.alone (vals := [v1, encK k]) hcon (F := F) (fun x hx => Nat.lt_of_lt_of_le (hFb x hx).1 hg.size) rfl ?_).mono ?_
    · intro j x v hx hv
      match j, hx, hv with
      | 0, hx, hv =>
        cases hx
        cases hv
        cases hrv1 with
        | d h => exact .d (h.mono (fun _ h => h) fun x hx => hg.block x (hFb x hx).1 (fun e => (hFb x hx).2 (by cases e; rfl)))
      | 1, hx, hv =>
        cases hx
        cases hv
        refine .agg _ [.int .i64 k.1, .int .i64 k.2.1, .int .i64 k.2.2] rfl ?_ ?_
        · intro j v hv
          match j with
          | 0 => simp at hv; subst hv; rfl
          | 1 => simp at hv; subst hv; rfl
          | 2 => simp at hv; subst hv; rfl
          | j + 3 => simp at hv
        · intro j x v hx hv
          match j with
          | 0 => simp at hx hv; subst hx; subst hv; exact .d (.int _ _)
          | 1 => simp at hx hv; subst hx; subst hv; exact .d (.int _ _)
          | 2 => simp at hx hv; subst hx; subst hv; exact .d (.int _ _)
          | j + 3 => simp at hx
      | j + 2, hx, hv => simp at hx
    · rintro e w' ⟨v, res, s', g', F', rfl, ⟨rfl, rfl⟩, hrv, hB⟩
      refine ⟨?_, hB⟩
      cases hrv with
      | d h => cases h; rfl
  have hkw := keepW 5 (by decide) c b tt zs clock w v1 (fun k => ks.any (eqK k)) hc hb hkz hsz2 hoz hzl hcont
  refine (callsIn_wide.1 hkw).mono ?_
  rintro e w' ⟨rfl, hb', hg⟩
  have hfl : ∀ q : Kl → Bool, (zs.filter fun z => q z.1).map (·.1) = l.filter q := fun q => by
    rw [← z1, List.filter_map]
    rfl
  have hX : Ext U w w' := by
    refine ⟨hg.os, hg.tape, hg.output, hg.size, fun x hx => hg.block x (hS.Ult x hx) (fun e => hnU (by cases e; exact hx)), fun x hx => ?_⟩
    by_cases hxb : x = b
    · subst hxb
      simp [World.shape?, hb, hb']
    · unfold World.shape?
      rw [hg.block x hx (fun e => hxb (by cases e; rfl))]
  refine ⟨_, .d (.int .i64 ((l.filter fun k => !ks.any (eqK k)).length : Int)), _, g, F, U, rfl, ⟨rfl, rfl⟩, fun _ _ h => h, fun id ab h => .inl ?_, fun _ h => h, fun _ h => h, fun _ h => .inl h, hX, ?_, ?_⟩
  · simp [setS] at h ⊢
    rcases h with ⟨rfl, _⟩ | ⟨rfl, _⟩
    · exact ⟨_, .inl ⟨rfl, rfl⟩⟩
    · exact ⟨_, .inr ⟨rfl, rfl⟩⟩
  · refine St.two (a1 := .dmap (encL l)) hS (by simp) (by simp) hgb hg hX ?_
    rw [← hfl fun k => ks.any (eqK k)]
    generalize hzf : (zs.filter fun z => ks.any (eqK z.1)) = zf at hb'
    have hsf : (zf.map (·.2)).Nodup := by rw [← hzf]; exact hsz2.sublist (List.filter_sublist.map _)
    have hof : ∀ z ∈ zf, z.2 < clock := fun z hz => hoz z (List.mem_filter.1 (hzf ▸ hz)).1
    have at_ : ∀ (i : Nat) (e : MapEntry), (zf.map mkE).toArray[i]? = some e → ∃ z, zf[i]? = some z ∧ e = mkE z := fun i e he => by
      rw [List.getElem?_toArray, List.getElem?_map] at he
      cases hz : zf[i]? with
      | none => rw [hz] at he; cases he
      | some z => rw [hz] at he; cases he; exact ⟨z, rfl, rfl⟩
    refine ⟨(zf.map mkE).toArray, clock, hb', by simp [encL, encM], fun i e x he hx => ?_, fun i e he => ?_, fun i j e e' he he' hbn => ?_⟩
    · obtain ⟨z, hz, rfl⟩ := at_ i e he
      have hx : (dxC (keyC z.1), dxK z.1) = x := by simpa [encL, encM, hz] using hx
      subst hx
      have ints : ∀ (xs : List Int), RV (Mp.sub ⟨fun _ => none, g⟩ (.g 1)) F w' (.agg (xs.map fun x => .d (.int .i64 x))) (.agg (xs.map (Value.int .i64)).toArray) := fun xs => by
        refine .agg _ _ (by simp) ?_ ?_
        · intro j v hv
          rw [List.getElem?_map] at hv
          cases hj : xs[j]? with
          | none => rw [hj] at hv; cases hv
          | some y => rw [hj] at hv; cases hv; rfl
        · intro j x v hx hv
          rw [List.getElem?_map] at hx hv
          cases hj : xs[j]? with
          | none => rw [hj] at hv; cases hv
          | some y => rw [hj] at hx hv; cases hx; cases hv; exact .d (.int _ _)
      exact ⟨ints [z.1.1, z.1.2.1], ints [z.1.1, z.1.2.1, z.1.2.2]⟩
    · obtain ⟨z, hz, rfl⟩ := at_ i e he
      exact hof z (List.mem_of_getElem? hz)
    · obtain ⟨z, hz, rfl⟩ := at_ i e he
      obtain ⟨y, hy, rfl⟩ := at_ j e' he'
      have h1 := (List.getElem?_eq_some_iff.1 hz).1
      refine (List.getElem?_inj (l := zf.map (·.2)) (by simpa using h1) hsf).1 ?_
      rw [List.getElem?_map, List.getElem?_map, hz, hy]
      exact congrArg some hbn
  · rw [← hfl fun k => !ks.any (eqK k), List.length_map]
    exact .d (.int _ _)
end Go.Proofs.Ytkenimmellonjaa
/- Seat r2: the values of a map that is nil; all latches of such a set. -/
namespace Go.Proofs.Ytkenimmellonjaa
open Go.RowKit Go.Maps Go.Shelf
set_option maxRecDepth 100000 in
set_option maxHeartbeats 1000000 in
theorem values1_nil (F : Fence) (n : Nat) (h104 : F.fn 104) (hro : F.round = none) (l Bm : Nat) (J : List (Int × Int × Int) → World → Prop)
    (W : World) (hJ : AbidesFrom W.heap.size J) (hm : W.cell? ⟨Bm, 0, none⟩ = some (.map none)) (h0 : J [] W) :
    CallsIn F n Try.prog 104 #[.func (.yield l) #[] #[], .pointer (some ⟨Bm, 0, none⟩)] W fun e W' => (∃ v, e = .returned v) ∧ J [] W' := by
  refine callsIn_of_wp Try.func104 rfl h104 ?_ hro
  simp only [Try.ntmps104, List.size_toArray, List.length_cons, List.length_nil, Nat.reduceAdd, Nat.reduceSub, Array.replicate_succ, Array.replicate_zero, List.push_toArray, List.append_toArray, List.nil_append, List.cons_append]
  have hrg := run_range_nilMap (P := Try.prog) W 31 36 38 Try.underlying31
  have hnx : ∀ ty, (Instr.next (.pointer (some ⟨W.heap.size, 0, none⟩)) false ty).run Try.prog (W.alloc (.mapIter none 0 #[] 0)) = _ := fun ty => run_next_nilMap _ ty 0 0 #[]
  gi_wp2
  refine wpIn_loop_rounds 1 ?_
  rw [roundsIn_succ]
  gi_wp2
  go_end0
  exact ⟨⟨_, rfl⟩, hJ [] W _ none h0 (World.grownBy_alloc W _ none) (fun r e => by cases e)⟩
open Go.Pv
def nilC : AB := .cells [.d (.raw (.map .none))]
theorem collectN : Contract Try.prog G0 102 [.fn 104 [.ref (.g 0) 0]] [(0, nilC)] (fun r t => r = .d (.list 3 []) ∧ t = [(0, nilC)]) := by
  refine ⟨enters_of Try.func102 (by kernel_rfl) rfl, fun g F U w vals hS hG hlv hv => ?_⟩
  obtain ⟨v, rfl⟩ : ∃ v, vals = [v] := by
    match vals, hlv with
    | [v], _ => exact ⟨v, rfl⟩
  have hrv := hv 0 _ v rfl rfl
  obtain ⟨B, hgB, rfl⟩ : ∃ B, g 0 = some B ∧ v = .func (.func 104) #[] #[.pointer (some ⟨B, 0, none⟩)] := by
    cases hrv with
    | fn _ _ vs hl h =>
      obtain ⟨u, rfl⟩ : ∃ u, vs = [u] := by
        match vs, hl with
        | [u], _ => exact ⟨u, rfl⟩
      have := h 0 _ u rfl rfl
      cases this with
      | ref _ _ b hb => exact ⟨b, hb, rfl⟩
  obtain ⟨arr, tt, hb1, hsz, hc1⟩ := hS.rb (.g 0) nilC B (by simp [Here]) hgB
  have hsz : arr.size = 1 := hsz
  obtain ⟨u, hu⟩ : ∃ u, arr[0]? = some u := ⟨_, Array.getElem?_eq_getElem (by omega)⟩
  have hru := (hc1 0 _ u rfl hu).2
  obtain rfl : u = .map none := by
    cases hru with
    | d h => cases h; rfl
  have hm : w.cell? ⟨B, 0, none⟩ = some (.map none) := by simp [World.cell?, hb1, hu]
  have hBl := (Array.getElem?_eq_some_iff.1 hb1).1
  have e104 : ∀ args w, (callFunc 104 args).run Try.prog w = .ok (.enter 104 args) w := enters_of Try.func104 (by kernel_rfl) rfl
  have hco := collect Fence.wide 5 trivial trivial rfl (by decide) 104 #[.pointer (some ⟨B, 0, none⟩)] trivial e104 (fun ss => ss = []) (fun _ => True) 0 (by decide) w
    (fun w' hB l J Jx W hW hJ _ _ h0 => (values1_nil Fence.wide 3 trivial rfl l B J W hJ ((hW.cell (p := ⟨B, 0, none⟩) (Nat.lt_of_lt_of_le hBl hB.size)).trans ((hB.cell (p := ⟨B, 0, none⟩) hBl).trans hm)) h0).mono fun e W' ⟨hv, hj⟩ => ⟨hv, .inl ⟨[], rfl, hj⟩⟩)
  refine (callsIn_wide.1 hco).mono ?_
  rintro e w' ⟨v, ss, rfl, rfl, hrow, _, hBe⟩
  have hS2 := St.later hS hBe
  obtain ⟨A, c, rfl⟩ : ∃ A c, v = .slice A 0 c := by
    rcases hrow.2 with ⟨rfl, _⟩ | ⟨nb, cap, cur, rfl, _⟩
    · exact ⟨_, _, rfl⟩
    · exact ⟨_, _, rfl⟩
  exact ⟨_, .d (.list 3 []), _, g, F, U, rfl, ⟨rfl, rfl⟩, fun _ _ h => h, fun id ab h => .inl ⟨ab, h⟩, fun _ h => h, fun _ h => h, fun _ h => .inl h, ext_below hBe hS.Ult, hS2, .d (.empty 3 A c)⟩
theorem sort103_none : Contract Try.prog G0 103 [.d (.list 3 []), .fn 75 []] [] (fun r t => r = .tup [] ∧ t = []) := by
  refine ⟨enters_of Try.func103 (by kernel_rfl) rfl, fun g F U w vals hS hG hlv hv => ?_⟩
  obtain ⟨v, u, rfl⟩ : ∃ v u, vals = [v, u] := by
    match vals, hlv with
    | [v, u], _ => exact ⟨v, u, rfl⟩
  have hrv := hv 0 _ v rfl rfl
  obtain ⟨p, c, rfl⟩ : ∃ p c, v = .slice p 0 c := by
    cases hrv with
    | d h =>
      cases h with
      | empty => exact ⟨_, _, rfl⟩
      | list => exact ⟨_, _, rfl⟩
  refine (sortF_none p c u w).mono fun e w' he => ?_
  obtain ⟨rfl, rfl⟩ := he
  exact ⟨_, _, _, g, F, U, rfl, ⟨rfl, rfl⟩, fun _ _ h => h, fun id ab h => .inl ⟨ab, h⟩, fun _ h => h, fun _ h => h, fun _ h => .inl h, .refl _ _, hS, .tup [] [] rfl (fun j x v hx => by simp at hx)⟩
set_option maxRecDepth 100000 in
theorem values74_none : Contract Try.prog G0 74 [.d (.raw (.map .none))] [] (fun r t => r = .fn 104 [.ref (.g 0) 0] ∧ t = [(0, nilC)]) := by
  refine run74 0 [] rfl rfl ?_
  conv => whnf
  exact ⟨rfl, rfl⟩
set_option maxRecDepth 100000 in
theorem sorted73_none : Contract Try.prog G0 73 [.fn 104 [.ref (.g 0) 0], .fn 75 []] [(0, nilC)] (fun r t => r = .d (.list 3 []) ∧ t = [(0, nilC)]) := by
  refine run73 1 [] rfl rfl ?_
  conv => whnf
  refine .obj rfl ?_
  conv => whnf
  refine ⟨_, _, ⟨WkL.refl _, collectN⟩, fun res s1 h => ?_⟩
  obtain ⟨rfl, rfl⟩ := h
  conv => whnf
  refine .obj rfl ?_
  conv => whnf
  refine ⟨_, _, ⟨WkL.refl _, sort103_none⟩, fun res s1 h => ?_⟩
  obtain ⟨rfl, rfl⟩ := h
  conv => whnf
  exact ⟨rfl, rfl⟩
set_option maxRecDepth 100000 in
/-- All of a set that nothing was put into. -/
theorem all27_none : Contract Try.prog G0 27 [.ref (.g 0) 0] [(0, nilC)] (fun r t => r = .d (.list 3 []) ∧ t = [(0, nilC)]) := by
  refine run27 1 [] rfl rfl ?_
  conv => whnf
  refine .obj rfl ?_
  conv => whnf
  refine ⟨_, _, ⟨WkL.refl _, values74_none⟩, fun res s1 h => ?_⟩
  obtain ⟨rfl, rfl⟩ := h
  conv => whnf
  refine .obj rfl ?_
  conv => whnf
  refine ⟨_, _, ⟨WkL.refl _, sorted73_none⟩, fun res s1 h => ?_⟩
  obtain ⟨rfl, rfl⟩ := h
  conv => whnf
  exact ⟨rfl, rfl⟩
end Go.Proofs.Ytkenimmellonjaa
/- Seat r2: Keep of a set that nothing was put into. -/
namespace Go.Proofs.Ytkenimmellonjaa
open Go.RowKit Go.Maps Go.Shelf
open Go.Pv
set_option maxRecDepth 100000 in
set_option maxHeartbeats 1000000 in
theorem keepNW (n c : Nat) (tt : TypeId) (w : World) (v1 : Value) (hc : w.heap[c]? = some (.cells #[.map none] tt (0, 0))) :
    CallsIn Fence.wide n Try.prog 44 #[.pointer (some ⟨c, 0, none⟩), v1] w fun e w' => e = .returned (.int .i64 0) ∧ Below w.heap.size w w' := by
  refine callsIn_of_wp Try.func44 rfl trivial ?_ rfl
  simp only [Try.ntmps44, List.size_toArray, List.length_cons, List.length_nil, Nat.reduceAdd, Nat.reduceSub, Array.replicate_succ, Array.replicate_zero, List.push_toArray, List.append_toArray, List.nil_append, List.cons_append]
  have hc0 : w.cell? ⟨c, 0, none⟩ = some (.map none) := by simp [World.cell?, hc]
  have hrg := run_range_nilMap (P := Try.prog) w 31 36 38 Try.underlying31
  have hnx : ∀ ty, (Instr.next (.pointer (some ⟨w.heap.size, 0, none⟩)) false ty).run Try.prog (w.alloc (.mapIter none 0 #[] 0)) = _ := fun ty => run_next_nilMap _ ty 0 0 #[]
  gi_wp2
  refine wpIn_loop_rounds 1 ?_
  rw [roundsIn_succ]
  gi_wp2
  go_ret
  exact ⟨rfl, (Below.refl _ w).alloc (Nat.le_refl _) _⟩
theorem keep44_none (x : AV) : Contract Try.prog G0 44 [.ref (.g 0) 0, x] [(0, nilC)] (fun r t => r = .d (.int .i64 0) ∧ t = [(0, nilC)]) := by
  refine ⟨enters_of Try.func44 (by kernel_rfl) rfl, fun g F U w vals hS hG hlv hv => ?_⟩
  obtain ⟨v, v1, rfl⟩ : ∃ v v1, vals = [v, v1] := by
    match vals, hlv with
    | [v, v1], _ => exact ⟨v, v1, rfl⟩
  have hrv := hv 0 _ v rfl rfl
  obtain ⟨c, hgc, rfl⟩ : ∃ c, g 0 = some c ∧ v = .pointer (some ⟨c, 0, none⟩) := by
    cases hrv with
    | ref _ _ b hb => exact ⟨b, hb, rfl⟩
  obtain ⟨arr, tt, hc, hsz, hc1⟩ := hS.rb (.g 0) nilC c (by simp [Here]) hgc
  have hsz : arr.size = 1 := hsz
  obtain ⟨u, hu⟩ : ∃ u, arr[0]? = some u := ⟨_, Array.getElem?_eq_getElem (by omega)⟩
  have hru := (hc1 0 _ u rfl hu).2
  obtain rfl : u = .map none := by
    cases hru with
    | d h => cases h; rfl
  obtain rfl : arr = #[.map none] := by
    apply Array.ext'
    match h : arr.toList, (show arr.toList.length = 1 by simpa using hsz) with
    | [x], _ =>
      have : arr.toList[0]? = some (.map none) := by rw [Array.getElem?_toList]; exact hu
      rw [h] at this
      simpa using this
  refine (callsIn_wide.1 (keepNW 5 c tt w v1 hc)).mono ?_
  rintro e w' ⟨rfl, hB⟩
  exact ⟨_, .d (.int .i64 0), _, g, F, U, rfl, ⟨rfl, rfl⟩, fun _ _ h => h, fun id ab h => .inl ⟨ab, h⟩, fun _ h => h, fun _ h => h, fun _ h => .inl h, ext_below hB hS.Ult, St.later hS hB, .d (.int _ _)⟩
end Go.Proofs.Ytkenimmellonjaa
