/- The seat's texts, part 3: what single functions of the program compute; no statement of its own. -/
import Derived.Test.YtkenimmellonjaaGB
import Derived.Test.YtkenimmellonjaaGA
/- Seat r2: sets of calls: single functions. -/
namespace Go.Proofs.Ytkenimmellonjaa
open Go.Pv Go.RowKit
abbrev latK (k : Kl) : AV := .agg [.d (.int .i64 k.1), .d (.int .i64 k.2.1), .d (.int .i64 k.2.2)]
abbrev calC (c : Int × Int) : AV := .agg [.d (.int .i64 c.1), .d (.int .i64 c.2)]
def kcsC : Bool × List IntKind := (true, [.i64, .i64])
theorem dxC_inj : ∀ a b, dxC a = dxC b → a = b := fun a b h => by
  simp [dxC] at h
  exact Prod.ext h.1 h.2
theorem dxC_good (c : Int × Int) : kgood kcsC (dxC c) = true := by simp [kgood, kcsC, dxC, kmatch]
theorem flat36 : flatK T 36 = some kcsC := by kernel_rfl
theorem stood36 : Try.prog.stoodInHeld 36 = false := by kernel_rfl
def setN : List (Nat × AB) := [(0, .cells [.d (.raw (.map .none))])]
def setS (l : List Kl) : List (Nat × AB) := [(0, .cells [.mp (.g 1)]), (1, .dmap (encL l))]
abbrev getL (l : List Kl) (c : Int × Int) : Option Kl := aget keyC l c
abbrev putL (l : List Kl) (k : Kl) : List Kl := aput keyC l k
abbrev delL (l : List Kl) (c : Int × Int) : List Kl := adel keyC l c
abbrev Ks (l : List Kl) : Prop := (l.map keyC).Nodup
theorem good_encL (l : List Kl) : ∀ e ∈ encL l, kgood kcsC e.1 = true := good_enc dxC_good l
theorem dget_L {l : List Kl} (hn : Ks l) (c : Int × Int) : dget (encL l) (dxC c) ((getL l c).map dxK) := dget_enc (ev := dxK) dxC_inj hn c
theorem encL_len (l : List Kl) : (encL l).length = l.length := by simp [encL, encM]
set_option maxRecDepth 100000 in
theorem has_none (c : Int × Int) : Contract Try.prog G0 29 [.ref (.g 0) 0, calC c] setN (fun r t => r = .d (.bool false) ∧ t = setN) := by
  refine run29 1 [] rfl rfl ?_
  conv => whnf
  refine ⟨dxC_good c, ?_⟩
  conv => whnf
  exact ⟨rfl, rfl⟩
set_option maxRecDepth 100000 in
theorem has_some (l : List Kl) (hn : Ks l) (c : Int × Int) : Contract Try.prog G0 29 [.ref (.g 0) 0, calC c] (setS l) (fun r t => r = .d (.bool (getL l c).isSome) ∧ t = setS l) := by
  refine run29 2 [] rfl rfl ?_
  conv => whnf
  have hg := dget_L hn c
  cases ha : getL l c with
  | none =>
    rw [ha] at hg
    refine ⟨stood36, .none, ⟨dxC_good c, good_encL l, hg⟩, ?_⟩
    conv => whnf
    exact ⟨rfl, rfl⟩
  | some k =>
    rw [ha] at hg
    refine ⟨stood36, .some (dxK k), ⟨dxC_good c, good_encL l, hg⟩, ?_⟩
    conv => whnf
    exact ⟨rfl, rfl⟩
set_option maxRecDepth 100000 in
theorem get_some (l : List Kl) (hn : Ks l) (c : Int × Int) : Contract Try.prog G0 56 [.ref (.g 0) 0, calC c] (setS l) (fun r t => r = .tup [latK ((getL l c).getD (0, 0, 0)), .d (.bool (getL l c).isSome)] ∧ t = setS l) := by
  refine run56 2 [] rfl rfl ?_
  conv => whnf
  have hg := dget_L hn c
  cases ha : getL l c with
  | none =>
    rw [ha] at hg
    refine ⟨stood36, .none, ⟨dxC_good c, good_encL l, hg⟩, ?_⟩
    conv => whnf
    exact ⟨rfl, rfl⟩
  | some k =>
    rw [ha] at hg
    refine ⟨stood36, .some (dxK k), ⟨dxC_good c, good_encL l, hg⟩, ?_⟩
    conv => whnf
    exact ⟨rfl, rfl⟩
set_option maxRecDepth 100000 in
theorem get_none (c : Int × Int) : Contract Try.prog G0 56 [.ref (.g 0) 0, calC c] setN (fun r t => r = .tup [latK (0, 0, 0), .d (.bool false)] ∧ t = setN) := by
  refine run56 1 [] rfl rfl ?_
  conv => whnf
  refine ⟨dxC_good c, ?_⟩
  conv => whnf
  exact ⟨rfl, rfl⟩
set_option maxRecDepth 100000 in
theorem len_none : Contract Try.prog G0 46 [.ref (.g 0) 0] setN (fun r t => r = .d (.int .i64 0) ∧ t = setN) := by
  refine run46 1 [] rfl rfl ?_
  conv => whnf
  exact ⟨rfl, rfl⟩
set_option maxRecDepth 100000 in
theorem len_some (l : List Kl) : Contract Try.prog G0 46 [.ref (.g 0) 0] (setS l) (fun r t => r = .d (.int .i64 (l.length : Int)) ∧ t = setS l) := by
  refine run46 2 [] rfl rfl ?_
  conv => whnf
  refine ⟨?_, rfl⟩
  rw [encL_len]
set_option maxRecDepth 100000 in
theorem put_none (k : Kl) : Contract Try.prog G0 26 [.ref (.g 0) 0, latK k] setN (fun r t => r = .d (.bool true) ∧ t = setS [k]) := by
  refine run26 1 [] rfl rfl ?_
  conv => whnf
  refine .obj rfl ?_
  conv => whnf
  refine ⟨_, _, ⟨WkL.refl _, has_none (keyC k)⟩, fun res s1 h => ?_⟩
  obtain ⟨rfl, rfl⟩ := h
  conv => whnf
  refine ⟨stood36, encL [k], ⟨dxC_good (keyC k), fun e he => (by cases he), .inl ⟨fun e he => (by cases he), rfl⟩⟩, ?_⟩
  conv => whnf
  exact ⟨rfl, rfl⟩
set_option maxRecDepth 100000 in
theorem put_some (l : List Kl) (hn : Ks l) (hne : l ≠ []) (k : Kl) : Contract Try.prog G0 26 [.ref (.g 0) 0, latK k] (setS l) (fun r t => r = .d (.bool !(getL l (keyC k)).isSome) ∧ t = setS (putL l k)) := by
  refine run26 2 [] rfl rfl ?_
  conv => whnf
  refine .obj rfl ?_
  conv => whnf
  refine ⟨_, _, ⟨WkL.refl _, has_some l hn (keyC k)⟩, fun res s1 h => ?_⟩
  obtain ⟨rfl, rfl⟩ := h
  conv => whnf
  refine bcase_intro (fun h => ?_) (fun h => ?_)
  · exfalso
    rw [encL_len] at h
    have h2 : ((l.length : Int) == 0) = true := h
    exact hne (by simpa using h2)
  conv => whnf
  refine ⟨stood36, encL (putL l k), ⟨dxC_good (keyC k), good_encL l, dput_enc (ev := dxK) dxC_inj hn k⟩, ?_⟩
  conv => whnf
  exact ⟨rfl, rfl⟩
set_option maxRecDepth 100000 in
/-- .. onto a set that has been emptied: a new map. -/
theorem put_nil (k : Kl) : Contract Try.prog G0 26 [.ref (.g 0) 0, latK k] (setS []) (fun r t => r = .d (.bool true) ∧ ∃ d, t = [(0, .cells [.mp (.g 2)]), (1, .dmap d), (2, .dmap (encL [k]))]) := by
  refine run26 2 [] rfl rfl ?_
  conv => whnf
  refine .obj rfl ?_
  conv => whnf
  refine ⟨_, _, ⟨WkL.refl _, has_some [] .nil (keyC k)⟩, fun res s1 h => ?_⟩
  obtain ⟨rfl, rfl⟩ := h
  conv => whnf
  refine ⟨stood36, encL [k], ⟨dxC_good (keyC k), fun e he => (by cases he), .inl ⟨fun e he => (by cases he), rfl⟩⟩, ?_⟩
  conv => whnf
  exact ⟨rfl, _, rfl⟩
set_option maxRecDepth 100000 in
theorem del_some (l : List Kl) (hn : Ks l) (c : Int × Int) : Contract Try.prog G0 54 [.ref (.g 0) 0, calC c] (setS l) (fun r t => r = .d (.bool (getL l c).isSome) ∧ t = setS (delL l c)) := by
  refine run54 2 [] rfl rfl ?_
  conv => whnf
  refine .obj rfl ?_
  conv => whnf
  refine ⟨_, _, ⟨WkL.refl _, has_some l hn c⟩, fun res s1 h => ?_⟩
  obtain ⟨rfl, rfl⟩ := h
  conv => whnf
  refine ⟨stood36, encL (delL l c), ⟨dxC_good c, good_encL l, ddel_enc (ev := dxK) dxC_inj hn c⟩, ?_⟩
  conv => whnf
  exact ⟨rfl, rfl⟩
set_option maxRecDepth 100000 in
theorem values74 (l : List Kl) : Contract Try.prog G0 74 [.mp (.g 0)] [(0, .dmap (encL l))] (fun r t => r = .fn 104 [.ref (.g 1) 0] ∧ t = [(0, .dmap (encL l)), (1, .cells [.mp (.g 0)])]) := by
  refine run74 1 [] rfl rfl ?_
  conv => whnf
  exact ⟨rfl, rfl⟩
end Go.Proofs.Ytkenimmellonjaa
/- Seat r2: all latches of a set, in order. -/
namespace Go.Proofs.Ytkenimmellonjaa
open Go.Pv Go.RowKit
/-- Latches that stand in order, none ahead of what is less. -/
def Srd (q : List Kl) : Prop := q.Pairwise fun a b => ¬ cmpK b a < 0
abbrev c1 : AB := .cells [.mp (.g 1)]
set_option maxRecDepth 100000 in
theorem sorted73 (l : List Kl) (hl : l.length ≤ 100000) : Contract Try.prog G0 73 [.fn 104 [.ref (.g 0) 0], .fn 75 []] [(0, c1), (1, .dmap (encL l))] (fun r t => ∃ q : List Kl, q.Perm l ∧ Srd q ∧
    ((q = [] ∧ r = .d .nil ∧ t = [(0, c1), (1, .dmap (encL l))]) ∨ ∃ c, q.length ≤ c ∧ r = .slc (.g 2) 3 0 q.length c ∧ t = [(0, c1), (1, .dmap (encL l)), (2, .row 3 (rowsK q))])) := by
  refine run73 2 [] rfl rfl ?_
  conv => whnf
  refine .obj rfl ?_
  conv => whnf
  refine ⟨_, _, ⟨WkL.refl _, collectC l hl⟩, fun res s1 h => ?_⟩
  obtain ⟨ss, hp, ⟨rfl, rfl, rfl⟩ | ⟨c, hc, rfl, rfl⟩⟩ := h
  · conv => whnf
    refine .obj rfl ?_
    conv => whnf
    refine ⟨_, _, ⟨WkL.refl _, sort103_nil⟩, fun res s1 h => ?_⟩
    obtain ⟨rfl, rfl⟩ := h
    conv => whnf
    exact ⟨[], hp, .nil, .inl ⟨rfl, rfl, rfl⟩⟩
  · conv => whnf
    refine .obj rfl ?_
    conv => whnf
    refine ⟨_, _, ⟨WkL.refl _, sort103 ss (by rw [hp.length_eq]; exact hl) c⟩, fun res s1 h => ?_⟩
    obtain ⟨rfl, q, hq, hs, rfl⟩ := h
    conv => whnf
    exact ⟨q, hq.trans hp, hs, .inr ⟨c, by rw [hq.length_eq]; exact hc, by rw [hq.length_eq], rfl⟩⟩
set_option maxRecDepth 100000 in
theorem all27 (l : List Kl) (hl : l.length ≤ 100000) : Contract Try.prog G0 27 [.ref (.g 0) 0] (setS l) (fun r t => ∃ q : List Kl, q.Perm l ∧ Srd q ∧
    ((q = [] ∧ r = .d .nil ∧ t = setS l) ∨ ∃ c, q.length ≤ c ∧ r = .slc (.g 2) 3 0 q.length c ∧ t = setS l ++ [(2, .row 3 (rowsK q))])) := by
  refine run27 2 [] rfl rfl ?_
  conv => whnf
  refine .obj rfl ?_
  conv => whnf
  refine ⟨_, _, ⟨WkL.refl _, values74 l⟩, fun res s1 h => ?_⟩
  obtain ⟨rfl, rfl⟩ := h
  conv => whnf
  refine .obj rfl ?_
  conv => whnf
  refine ⟨_, _, ⟨WkL.refl _, sorted73 l hl⟩, fun res s1 h => ?_⟩
  obtain ⟨q, hq, hs, ⟨rfl, rfl, rfl⟩ | ⟨c, hc, rfl, rfl⟩⟩ := h
  · conv => whnf
    exact ⟨[], hq, hs, .inl ⟨rfl, rfl, rfl⟩⟩
  · conv => whnf
    exact ⟨q, hq, hs, .inr ⟨c, hc, rfl, rfl⟩⟩
end Go.Proofs.Ytkenimmellonjaa
/- Seat r2: cmp.Compare, cmp.Or; calls held against each other. -/
namespace Go.Proofs.Ytkenimmellonjaa
open Go.Pv Go.RowKit Go.Shelf
set_option maxRecDepth 100000 in
theorem isNaN (x : Int) : Contract Try.prog G0 121 [.d (.int .i64 x)] [] (fun r t => r = .d (.bool false) ∧ t = []) := by
  refine run121 0 [] rfl rfl ?_
  conv => whnf
  exact ⟨rd_bool (by simp), rfl⟩
def cmpI (a b : Int) : Int := bif decide (a < b) then -1 else bif decide (a > b) then 1 else 0
set_option maxRecDepth 100000 in
theorem compareI (a b : Int) : Contract Try.prog G0 95 [.d (.int .i64 a), .d (.int .i64 b)] [] (fun r t => r = .d (.int .i64 (cmpI a b)) ∧ t = []) := by
  refine run95 0 [] rfl rfl ?_
  conv => whnf
  refine .scal [.d (.int .i64 a)] _ ⟨.refl _, rfl, isNaN a⟩ ?_
  conv => whnf
  refine .scal [.d (.int .i64 b)] _ ⟨.refl _, rfl, isNaN b⟩ ?_
  conv => whnf
  refine bcase_intro (fun h => ?_) (fun h => ?_) <;> conv => whnf
  · exact ⟨rd_int (by rw [cmpI, h]; rfl), rfl⟩
  refine bcase_intro (fun h2 => ?_) (fun h2 => ?_) <;> conv => whnf
  · exact ⟨rd_int (by rw [cmpI, h, h2]; rfl), rfl⟩
  · exact ⟨rd_int (by rw [cmpI, h, h2]; rfl), rfl⟩
def orI : List Int → Int
  | [] => 0
  | x :: r => bif x != 0 then x else orI r
set_option maxRecDepth 100000 in
theorem orC (l : List Int) (hl : l.length ≤ 1000) : Contract Try.prog G0 94 [.d (.list 1 (rowsI l))] [] (fun r t => r = .d (.int .i64 (orI l)) ∧ t = []) := by
  have hlen := rowsI_len l
  refine run94 0 [] rfl rfl ?_
  conv => whnf
  refine StopG.rounds wk94 [] [3, 6, 7, 8] (fun m env s => ∃ i : Nat, i ≤ l.length ∧ m = l.length - i ∧ orI l = orI (l.drop i) ∧
    env = [(3, .d (.int .i64 0)), (6, .d (.list 1 (rowsI l))), (7, .d (.int .i64 ((rowsI l).length : Int))), (8, .d (.int .i64 (i : Int)))] ∧ s = []) rfl ?_ ?_
  · conv => whnf
    exact ⟨_, 0, Nat.zero_le _, rfl, rfl, rfl, rfl⟩
  rintro m env s ⟨i, hi, rfl, ho, rfl, rfl⟩
  conv => whnf
  refine bcase_intro (fun h => ?_) (fun h => ?_) <;> conv => whnf
  · have h := lt_of h
    rw [hlen] at h
    obtain ⟨x, hx, hdrop⟩ := at_i h
    refine ⟨rowI x, ⟨by omega, row_i hx⟩, ?_⟩
    conv => whnf
    rw [hdrop, orI] at ho
    refine bcase_intro (fun h2 => ?_) (fun h2 => ?_) <;> conv => whnf
    · rw [h2] at ho
      exact ⟨rd_int ho.symm, rfl⟩
    · rw [h2] at ho
      rw [succ_i h (by omega)]
      exact ⟨_, by omega, i + 1, h, rfl, ho, rfl, rfl⟩
  · have h := ge_of h
    rw [hlen] at h
    rw [show l.drop i = [] from List.drop_of_length_le h] at ho
    exact ⟨rd_int ho.symm, rfl⟩
set_option maxRecDepth 100000 in
theorem cmp76 (a b a' b' : Int) : Contract Try.prog G0 76 [calV a b, calV a' b'] [] (fun r t => r = .d (.int .i64 (orI [cmpI a a', cmpI b b'])) ∧ t = []) := by
  refine run76 0 [] rfl rfl ?_
  conv => whnf
  refine .scal [.d (.int .i64 a), .d (.int .i64 a')] _ ⟨.refl _, rfl, compareI a a'⟩ ?_
  conv => whnf
  refine .scal [.d (.int .i64 b), .d (.int .i64 b')] _ ⟨.refl _, rfl, compareI b b'⟩ ?_
  conv => whnf
  refine .scal [.d (.list 1 (rowsI [cmpI a a', cmpI b b']))] _ ⟨.refl _, rfl, orC _ (by simp)⟩ ?_
  conv => whnf
  exact ⟨rfl, rfl⟩
set_option maxRecDepth 100000 in
theorem less28 (a b a' b' : Int) : Contract Try.prog G0 28 [calV a b, calV a' b'] [] (fun r t => r = .d (.bool (decide (orI [cmpI a a', cmpI b b'] < 0))) ∧ t = []) := by
  refine run28 0 [] rfl rfl ?_
  conv => whnf
  refine .scal [calV a b, calV a' b'] _ ⟨.refl _, rfl, cmp76 a b a' b'⟩ ?_
  conv => whnf
  exact ⟨rfl, rfl⟩
end Go.Proofs.Ytkenimmellonjaa
/- Seat r2: lists of latches held against each other. -/
namespace Go.Proofs.Ytkenimmellonjaa
open Go.Pv Go.RowKit Go.Shelf
theorem not_t {b : Bool} (h : (!b) = true) : b = false := by cases b <;> simp_all
theorem not_f {b : Bool} (h : (!b) = false) : b = true := by cases b <;> simp_all
def eqLs {α : Type} (f : α → α → Bool) : List α → List α → Bool
  | [], [] => true
  | x :: a, y :: b => bif f x y then eqLs f a b else false
  | _, _ => false
theorem eqLs_len {α : Type} {f : α → α → Bool} : ∀ {a b : List α}, a.length ≠ b.length → eqLs f a b = false
  | [], [], h => absurd rfl h
  | [], _ :: _, _ => rfl
  | _ :: _, [], _ => rfl
  | x :: a, y :: b, h => by
    show (bif f x y then eqLs f a b else false) = false
    rw [eqLs_len (a := a) (b := b) fun e => h (by simp [e])]
    cases f x y <;> rfl
theorem eqLs_refl {α : Type} {f : α → α → Bool} : ∀ {a : List α}, (∀ x ∈ a, f x x = true) → eqLs f a a = true
  | [], _ => rfl
  | x :: a, h => by
    show (bif f x x then eqLs f a a else false) = true
    rw [h x (List.mem_cons_self ..), eqLs_refl fun y hy => h y (List.mem_cons_of_mem _ hy)]
    rfl
theorem eqLs_ext {α : Type} {f g : α → α → Bool} (h : ∀ x y, f x y = g x y) : ∀ (a b : List α), eqLs f a b = eqLs g a b
  | [], [] => rfl
  | [], _ :: _ => rfl
  | _ :: _, [] => rfl
  | x :: a, y :: b => by
    show (bif f x y then eqLs f a b else false) = (bif g x y then eqLs g a b else false)
    rw [h, eqLs_ext h a b]
set_option maxRecDepth 100000 in
theorem sameLatchs30 (a b : List (Int × Int × Int)) (ha : a.length ≤ 4611686018427387904) : Contract Try.prog G0 30 [.d (.list 3 (rowsK a)), .d (.list 3 (rowsK b))] [] (fun r t => r = .d (.bool (eqLs sameK a b)) ∧ t = []) := by
  have hlen := rowsK_len a
  have hlen2 := rowsK_len b
  refine run30 0 [] rfl rfl ?_
  conv => whnf
  refine bcase_intro (fun h => ?_) (fun h => ?_) <;> conv => whnf
  · rw [hlen, hlen2] at h
    have h2 : a.length ≠ b.length := fun e => by rw [e] at h; simp at h
    exact ⟨rd_bool (eqLs_len h2).symm, rfl⟩
  have hab : a.length = b.length := by
    rw [hlen, hlen2] at h
    have : (a.length : Int) = (b.length : Int) := by simpa using h
    omega
  refine StopG.rounds wk30 [] [0, 1, 5] (fun m env s => ∃ i : Nat, i ≤ a.length ∧ m = a.length - i ∧ eqLs sameK a b = eqLs sameK (a.drop i) (b.drop i) ∧
    env = [(0, .d (.list 3 (rowsK a))), (1, .d (.list 3 (rowsK b))), (5, .d (.int .i64 (i : Int)))] ∧ s = []) rfl ?_ ?_
  · conv => whnf
    exact ⟨_, 0, Nat.zero_le _, rfl, rfl, rfl, rfl⟩
  rintro m env s ⟨i, hi, rfl, heq, rfl, rfl⟩
  conv => whnf
  refine bcase_intro (fun h => ?_) (fun h => ?_) <;> conv => whnf
  · have h := lt_of h
    rw [hlen] at h
    obtain ⟨x, hx, hdrop⟩ := at_i h
    obtain ⟨y, hy, hdrop2⟩ := at_i (l := b) (i := i) (by omega)
    rw [hdrop, hdrop2, eqLs] at heq
    refine ⟨rowK x, ⟨by omega, row_i hx⟩, ?_⟩
    conv => whnf
    refine ⟨rowK y, ⟨by omega, row_i hy⟩, ?_⟩
    conv => whnf
    refine .scal [latV x.1 x.2.1 x.2.2, latV y.1 y.2.1 y.2.2] _ ⟨.refl _, rfl, sameLatch _ _ _ _ _ _⟩ ?_
    conv => whnf
    refine bcase_intro (fun h2 => ?_) (fun h2 => ?_) <;> conv => whnf
    · have h2 : sameK x y = false := not_t h2
      rw [h2] at heq
      exact ⟨rd_bool heq.symm, rfl⟩
    · have h2 : sameK x y = true := not_f h2
      rw [h2] at heq
      rw [succ_i h ha]
      exact ⟨_, by omega, i + 1, h, rfl, heq, rfl, rfl⟩
  · have h := ge_of h
    rw [hlen] at h
    rw [List.drop_of_length_le h, List.drop_of_length_le (by omega)] at heq
    exact ⟨rd_bool heq.symm, rfl⟩
end Go.Proofs.Ytkenimmellonjaa
/- Seat r2: sets of calls: the first look. -/
namespace Go.Proofs.Ytkenimmellonjaa
open Go.Pv Go.RowKit
set_option maxRecDepth 100000 in
theorem first25 : Contract Try.prog G0 25 [] [] (fun r t => r = .d (.bool true) ∧ t = []) := by
  have p2 := put_some [(1, 1, 1)] (by decide) (by simp) (1, 1, 1)
  have e1 : getL [(1, 1, 1)] (keyC (1, 1, 1)) = some (1, 1, 1) := by decide
  have e2 : putL [(1, 1, 1)] (1, 1, 1) = [(1, 1, 1)] := by decide
  rw [e1, e2] at p2
  refine run25 0 [] rfl rfl ?_
  conv => whnf
  refine .obj rfl ?_
  conv => whnf
  refine ⟨_, _, ⟨WkL.refl _, put_none (1, 1, 1)⟩, fun res s1 h => ?_⟩
  obtain ⟨rfl, rfl⟩ := h
  conv => whnf
  refine .objg (fun _ => ?_) (fun h => absurd ?_ h)
  · conv => whnf
    refine ⟨_, _, ⟨WkL.refl _, p2⟩, fun res s1 h => ?_⟩
    obtain ⟨rfl, rfl⟩ := h
    conv => whnf
    refine .objg (fun _ => ?_) (fun h => absurd ?_ h)
    · conv => whnf
      refine ⟨_, _, ⟨WkL.refl _, len_some [(1, 1, 1)]⟩, fun res s1 h => ?_⟩
      obtain ⟨rfl, rfl⟩ := h
      conv => whnf
      exact ⟨rfl, rfl⟩
    · simp [HG, lit, rfind]
  · simp [HG, lit, rfind]
end Go.Proofs.Ytkenimmellonjaa
/- Seat r2: sets of calls: the plain laws. -/
namespace Go.Proofs.Ytkenimmellonjaa
open Go.Pv
def puts (ks : List Kl) : List Kl := ks.foldl putL []
theorem puts_snoc (ks : List Kl) (k : Kl) : puts (ks ++ [k]) = putL (puts ks) k := by simp [puts]
theorem fold_ks : ∀ (ks l : List Kl), Ks l → Ks (ks.foldl putL l)
  | [], _, h => h
  | k :: r, l, h => fold_ks r (putL l k) (aput_nodup h k)
theorem puts_ks (ks : List Kl) : Ks (puts ks) := fold_ks ks [] .nil
theorem putL_mem {l : List Kl} {k x : Kl} (h : x ∈ putL l k) : x = k ∨ x ∈ l := by
  rcases aput_mem h with h | ⟨h, _⟩ | h
  · exact .inl h
  · exact .inr h
  · exact .inr h
theorem fold_mem : ∀ (ks l : List Kl) {x : Kl}, x ∈ ks.foldl putL l → x ∈ ks ∨ x ∈ l
  | [], _, _, h => .inr h
  | k :: r, l, x, h => by
    rcases fold_mem r (putL l k) h with h | h
    · exact .inl (List.mem_cons_of_mem _ h)
    · rcases putL_mem h with rfl | h
      · exact .inl (List.mem_cons_self ..)
      · exact .inr h
theorem puts_mem {ks : List Kl} {x : Kl} (h : x ∈ puts ks) : x ∈ ks := by
  rcases fold_mem ks [] h with h | h
  · exact h
  · cases h
theorem putL_key {l : List Kl} {k : Kl} {c : Int × Int} (h : c = keyC k ∨ c ∈ l.map keyC) : c ∈ (putL l k).map keyC := by
  show c ∈ (aput keyC l k).map keyC
  rw [aput_keys]
  split
  · rename_i hk
    rcases h with rfl | h
    · exact hk
    · exact h
  · rcases h with rfl | h
    · exact List.mem_append_right _ (List.mem_singleton.2 rfl)
    · exact List.mem_append_left _ h
theorem fold_key : ∀ (ks l : List Kl) {c : Int × Int}, (c ∈ ks.map keyC ∨ c ∈ l.map keyC) → c ∈ (ks.foldl putL l).map keyC
  | [], _, _, h => by
    rcases h with h | h
    · cases h
    · exact h
  | k :: r, l, c, h => by
    refine fold_key r (putL l k) ?_
    rcases h with h | h
    · rcases List.mem_cons.1 h with h | h
      · exact .inr (putL_key (.inl h))
      · exact .inl h
    · exact .inr (putL_key (.inr h))
theorem puts_key {ks : List Kl} {k : Kl} (h : k ∈ ks) : keyC k ∈ (puts ks).map keyC := fold_key ks [] (.inl (List.mem_map_of_mem h))
theorem puts_ne {ks : List Kl} (h : ks ≠ []) : puts ks ≠ [] := by
  intro e
  cases ks with
  | nil => exact h rfl
  | cons k r =>
    have := puts_key (ks := k :: r) (List.mem_cons_self ..)
    rw [e] at this
    cases this
theorem putL_len (l : List Kl) (k : Kl) : (putL l k).length ≤ l.length + 1 := by
  have : ((aput keyC l k).map keyC).length ≤ l.length + 1 := by
    rw [aput_keys]
    split
    · simp
    · simp
  simpa using this
theorem fold_len : ∀ (ks l : List Kl), (ks.foldl putL l).length ≤ l.length + ks.length
  | [], _ => by simp
  | k :: r, l => by
    have h1 := fold_len r (putL l k)
    have h2 := putL_len l k
    simp only [List.foldl_cons, List.length_cons]
    omega
theorem puts_len (ks : List Kl) : (puts ks).length ≤ ks.length := by
  have := fold_len ks []
  simpa [puts] using this
/-- Latches of one time alone: what is in the set is what was put. -/
theorem puts_iff {ks : List Kl} (h : ∀ k ∈ ks, k.2.2 = 3) (x : Kl) : x ∈ puts ks ↔ x ∈ ks := by
  refine ⟨puts_mem, fun hx => ?_⟩
  obtain ⟨y, hy, he⟩ := List.mem_map.1 (puts_key hx)
  have h1 := h y (puts_mem hy)
  have h2 := h x hx
  have : y = x := by
    simp only [keyC, Prod.mk.injEq] at he
    exact Prod.ext he.1 (Prod.ext he.2 (h1.trans h2.symm))
  exact this ▸ hy
def ltC (a b : Kl) : Prop := a.1 < b.1 ∨ (a.1 = b.1 ∧ a.2.1 < b.2.1)
theorem srd_lt {q : List Kl} (h : Srd q) (hk : Ks q) : q.Pairwise ltC := by
  have h2 : q.Pairwise fun a b => keyC a ≠ keyC b := List.pairwise_map.1 hk
  refine (h.and h2).imp fun {a b} ⟨h1, h2⟩ => ?_
  rw [cmpK_lt] at h1
  unfold ltC
  have h3 : ¬ (a.1 = b.1 ∧ a.2.1 = b.2.1) := fun e => h2 (Prod.ext e.1 e.2)
  omega
theorem uniqC : ∀ {a b : List Kl}, a.Pairwise ltC → b.Pairwise ltC → (∀ x, x ∈ a ↔ x ∈ b) → a = b
  | [], [], _, _, _ => rfl
  | [], y :: b, _, _, h => absurd ((h y).2 (List.mem_cons_self ..)) (by simp)
  | x :: a, [], _, _, h => absurd ((h x).1 (List.mem_cons_self ..)) (by simp)
  | x :: a, y :: b, ha, hb, h => by
    have irr : ∀ z : Kl, ¬ ltC z z := fun z hz => by unfold ltC at hz; omega
    have asm : ∀ {u v : Kl}, ltC u v → ltC v u → False := fun {u v} h1 h2 => by unfold ltC at *; omega
    obtain ⟨ha1, ha2⟩ := List.pairwise_cons.1 ha
    obtain ⟨hb1, hb2⟩ := List.pairwise_cons.1 hb
    have hxy : x = y := by
      rcases List.mem_cons.1 ((h x).1 (List.mem_cons_self ..)) with e | hx
      · exact e
      rcases List.mem_cons.1 ((h y).2 (List.mem_cons_self ..)) with e | hy
      · exact e.symm
      exact (asm (ha1 y hy) (hb1 x hx)).elim
    subst hxy
    refine congrArg (x :: ·) (uniqC ha2 hb2 fun z => ⟨fun hz => ?_, fun hz => ?_⟩)
    · rcases List.mem_cons.1 ((h z).1 (List.mem_cons_of_mem _ hz)) with rfl | h1
      · exact (irr _ (ha1 _ hz)).elim
      · exact h1
    · rcases List.mem_cons.1 ((h z).2 (List.mem_cons_of_mem _ hz)) with rfl | h1
      · exact (irr _ (hb1 _ hz)).elim
      · exact h1
theorem perm_ks {q l : List Kl} (h : q.Perm l) (hk : Ks l) : Ks q := (h.map keyC).nodup_iff.2 hk
theorem getL_has {l : List Kl} {c : Int × Int} (h : c ∈ l.map keyC) : (getL l c).isSome = true := by
  cases hg : getL l c with
  | some _ => rfl
  | none =>
    obtain ⟨x, hx, he⟩ := List.mem_map.1 h
    exact absurd he (aget_none hg x hx)
theorem getL_key {l : List Kl} {c : Int × Int} : (getL l c).isSome = true ↔ c ∈ l.map keyC := by
  refine ⟨fun h => ?_, getL_has⟩
  cases hg : getL l c with
  | none => rw [hg] at h; cases h
  | some x =>
    obtain ⟨h1, h2⟩ := aget_some hg
    exact h2 ▸ List.mem_map_of_mem h1
end Go.Proofs.Ytkenimmellonjaa
/- Seat r2: the values of a map that is nil; all latches of such a set. -/
namespace Go.Proofs.Ytkenimmellonjaa
open Go.RowKit Go.Maps Go.Shelf
set_option maxRecDepth 100000 in
set_option maxHeartbeats 1000000 in
theorem values1_nil (F : Fence) (n : Nat) (h104 : F.fn 104) (hro : F.round = none) (l Bm : Nat) (J : List (Int × Int × Int) → World → Prop)
    (W : World) (hJ : AbidesFrom W.heap.size J) (hm : W.cell? ⟨Bm, 0, none⟩ = some (.map none)) (h0 : J [] W) :
    CallsIn F n Try.prog 104 #[.func (.yield l) #[] #[], .pointer (some ⟨Bm, 0, none⟩)] W fun e W' => (∃ v, e = .returned v) ∧ J [] W' := by
  refine callsIn_of_wp Try.func104 rfl h104 ?_ hro
  simp only [Try.ntmps104, List.size_toArray, List.length_cons, List.length_nil, Nat.reduceAdd, Nat.reduceSub, Array.replicate_succ, Array.replicate_zero, List.push_toArray, List.append_toArray, List.nil_append, List.cons_append]
  have hrg := run_range_nilMap (P := Try.prog) W 31 36 38 Try.underlying31
  have hnx : ∀ ty, (Instr.next (.pointer (some ⟨W.heap.size, 0, none⟩)) false ty).run Try.prog (W.alloc (.mapIter none 0 #[] 0)) = _ := fun ty => run_next_nilMap _ ty 0 0 #[]
  gi_wp2
  refine wpIn_loop_rounds 1 ?_
  rw [roundsIn_succ]
  gi_wp2
  go_end0
  exact ⟨⟨_, rfl⟩, hJ [] W _ none h0 (World.grownBy_alloc W _ none) (fun r e => by cases e)⟩
open Go.Pv
def nilC : AB := .cells [.d (.raw (.map .none))]
theorem collectN : Contract Try.prog G0 102 [.fn 104 [.ref (.g 0) 0]] [(0, nilC)] (fun r t => r = .d (.list 3 []) ∧ t = [(0, nilC)]) := by
  refine ⟨enters_of Try.func102 (by kernel_rfl) rfl, fun g F U w vals hS hG hlv hv => ?_⟩
  obtain ⟨v, rfl⟩ : ∃ v, vals = [v] := by
    match vals, hlv with
    | [v], _ => exact ⟨v, rfl⟩
  have hrv := hv 0 _ v rfl rfl
  obtain ⟨B, hgB, rfl⟩ : ∃ B, g 0 = some B ∧ v = .func (.func 104) #[] #[.pointer (some ⟨B, 0, none⟩)] := by
    cases hrv with
    | fn _ _ vs hl h =>
      obtain ⟨u, rfl⟩ : ∃ u, vs = [u] := by
        match vs, hl with
        | [u], _ => exact ⟨u, rfl⟩
      have := h 0 _ u rfl rfl
      cases this with
      | ref _ _ b hb => exact ⟨b, hb, rfl⟩
  obtain ⟨arr, tt, hb1, hsz, hc1⟩ := hS.rb (.g 0) nilC B (by simp [Here]) hgB
  have hsz : arr.size = 1 := hsz
  obtain ⟨u, hu⟩ : ∃ u, arr[0]? = some u := ⟨_, Array.getElem?_eq_getElem (by omega)⟩
  have hru := (hc1 0 _ u rfl hu).2
  obtain rfl : u = .map none := by
    cases hru with
    | d h => cases h; rfl
  have hm : w.cell? ⟨B, 0, none⟩ = some (.map none) := by simp [World.cell?, hb1, hu]
  have hBl := (Array.getElem?_eq_some_iff.1 hb1).1
  have e104 : ∀ args w, (callFunc 104 args).run Try.prog w = .ok (.enter 104 args) w := enters_of Try.func104 (by kernel_rfl) rfl
  have hco := collect Fence.wide 5 trivial trivial rfl (by decide) 104 #[.pointer (some ⟨B, 0, none⟩)] trivial e104 (fun ss => ss = []) (fun _ => True) 0 (by decide) w
    (fun w' hB l J Jx W hW hJ _ _ h0 => (values1_nil Fence.wide 3 trivial rfl l B J W hJ ((hW.cell (p := ⟨B, 0, none⟩) (Nat.lt_of_lt_of_le hBl hB.size)).trans ((hB.cell (p := ⟨B, 0, none⟩) hBl).trans hm)) h0).mono fun e W' ⟨hv, hj⟩ => ⟨hv, .inl ⟨[], rfl, hj⟩⟩)
  refine (callsIn_wide.1 hco).mono ?_
  rintro e w' ⟨v, ss, rfl, rfl, hrow, _, hBe⟩
  have hS2 := St.later hS hBe
  obtain ⟨A, c, rfl⟩ : ∃ A c, v = .slice A 0 c := by
    rcases hrow.2 with ⟨rfl, _⟩ | ⟨nb, cap, cur, rfl, _⟩
    · exact ⟨_, _, rfl⟩
    · exact ⟨_, _, rfl⟩
  exact ⟨_, .d (.list 3 []), _, g, F, U, rfl, ⟨rfl, rfl⟩, fun _ _ h => h, fun id ab h => .inl ⟨ab, h⟩, fun _ h => h, fun _ h => h, fun _ h => .inl h, ext_below hBe hS.Ult, hS2, .d (.empty 3 A c)⟩
theorem sort103_none : Contract Try.prog G0 103 [.d (.list 3 []), .fn 75 []] [] (fun r t => r = .tup [] ∧ t = []) := by
  refine ⟨enters_of Try.func103 (by kernel_rfl) rfl, fun g F U w vals hS hG hlv hv => ?_⟩
  obtain ⟨v, u, rfl⟩ : ∃ v u, vals = [v, u] := by
    match vals, hlv with
    | [v, u], _ => exact ⟨v, u, rfl⟩
  have hrv := hv 0 _ v rfl rfl
  obtain ⟨p, c, rfl⟩ : ∃ p c, v = .slice p 0 c := by
    cases hrv with
    | d h =>
      cases h with
      | empty => exact ⟨_, _, rfl⟩
      | list => exact ⟨_, _, rfl⟩
  refine (sortF_none p c u w).mono fun e w' he => ?_
  obtain ⟨rfl, rfl⟩ := he
  exact ⟨_, _, _, g, F, U, rfl, ⟨rfl, rfl⟩, fun _ _ h => h, fun id ab h => .inl ⟨ab, h⟩, fun _ h => h, fun _ h => h, fun _ h => .inl h, .refl _ _, hS, .tup [] [] rfl (fun j x v hx => by simp at hx)⟩
set_option maxRecDepth 100000 in
theorem values74_none : Contract Try.prog G0 74 [.d (.raw (.map .none))] [] (fun r t => r = .fn 104 [.ref (.g 0) 0] ∧ t = [(0, nilC)]) := by
  refine run74 0 [] rfl rfl ?_
  conv => whnf
  exact ⟨rfl, rfl⟩
set_option maxRecDepth 100000 in
theorem sorted73_none : Contract Try.prog G0 73 [.fn 104 [.ref (.g 0) 0], .fn 75 []] [(0, nilC)] (fun r t => r = .d (.list 3 []) ∧ t = [(0, nilC)]) := by
  refine run73 1 [] rfl rfl ?_
  conv => whnf
  refine .obj rfl ?_
  conv => whnf
  refine ⟨_, _, ⟨WkL.refl _, collectN⟩, fun res s1 h => ?_⟩
  obtain ⟨rfl, rfl⟩ := h
  conv => whnf
  refine .obj rfl ?_
  conv => whnf
  refine ⟨_, _, ⟨WkL.refl _, sort103_none⟩, fun res s1 h => ?_⟩
  obtain ⟨rfl, rfl⟩ := h
  conv => whnf
  exact ⟨rfl, rfl⟩
set_option maxRecDepth 100000 in
/-- All of a set that nothing was put into. -/
theorem all27_none : Contract Try.prog G0 27 [.ref (.g 0) 0] [(0, nilC)] (fun r t => r = .d (.list 3 []) ∧ t = [(0, nilC)]) := by
  refine run27 1 [] rfl rfl ?_
  conv => whnf
  refine .obj rfl ?_
  conv => whnf
  refine ⟨_, _, ⟨WkL.refl _, values74_none⟩, fun res s1 h => ?_⟩
  obtain ⟨rfl, rfl⟩ := h
  conv => whnf
  refine .obj rfl ?_
  conv => whnf
  refine ⟨_, _, ⟨WkL.refl _, sorted73_none⟩, fun res s1 h => ?_⟩
  obtain ⟨rfl, rfl⟩ := h
  conv => whnf
  exact ⟨rfl, rfl⟩
end Go.Proofs.Ytkenimmellonjaa
/- Seat r2: whatever order latches are put in: the walk. -/
namespace Go.Proofs.Ytkenimmellonjaa
open Go.Pv Go.RowKit Go.Shelf
def g3 (k : Kl) : Kl := (k.1, k.2.1, 3)
def atR (l : List Kl) (k j : Nat) : Kl := (l[(j + k) % l.length]?).getD (0, 0, 0)
def firstN (l : List Kl) (i : Nat) : List Kl := puts ((l.take i).map g3)
def rotN (l : List Kl) (k i : Nat) : List Kl := puts ((List.range i).map fun j => g3 (atR l k j))
theorem firstN_succ {l : List Kl} {i : Nat} {x : Kl} (hx : l[i]? = some x) : firstN l (i + 1) = putL (firstN l i) (g3 x) := by
  unfold firstN
  rw [List.take_add_one, hx, List.map_append]
  exact puts_snoc _ _
theorem rotN_succ (l : List Kl) (k i : Nat) : rotN l k (i + 1) = putL (rotN l k i) (g3 (atR l k i)) := by
  unfold rotN
  rw [List.range_succ, List.map_append]
  exact puts_snoc _ _
theorem firstN_ne {l : List Kl} {i : Nat} (hi : 0 < i) (hl : i ≤ l.length) : firstN l i ≠ [] := puts_ne fun e => by
  have := congrArg List.length e
  simp only [List.length_map, List.length_take, List.length_nil] at this
  omega
theorem rotN_ne {l : List Kl} {k i : Nat} (hi : 0 < i) : rotN l k i ≠ [] := puts_ne fun e => by
  have := congrArg List.length e
  simp only [List.length_map, List.length_range, List.length_nil] at this
  omega
theorem sum_mod {i k n : Nat} (h : i + k ≤ 1000) : (IntKind.wrap .i64 ((i : Int) + (k : Int))).tmod (n : Int) = (((i + k) % n : Nat) : Int) := by
  rw [wrap_id (by omega) (by omega), Int.tmod_eq_emod_of_nonneg (by omega)]
  rfl
theorem atR_get {l : List Kl} {k j : Nat} (h : j < l.length) : l[(j + k) % l.length]? = some (atR l k j) := by
  have := Nat.mod_lt (j + k) (show 0 < l.length by omega)
  unfold atR
  rw [List.getElem?_eq_getElem this]
  rfl
theorem firstN_gen {l : List Kl} {i : Nat} : ∀ k ∈ (l.take i).map g3, k.2.2 = 3 := fun k hk => by
  obtain ⟨x, _, rfl⟩ := List.mem_map.1 hk
  rfl
theorem rotN_gen {l : List Kl} {k i : Nat} : ∀ x ∈ (List.range i).map fun j => g3 (atR l k j), x.2.2 = 3 := fun x hx => by
  obtain ⟨j, _, rfl⟩ := List.mem_map.1 hx
  rfl
/-- The same latches, whatever order. -/
theorem same_sets {l : List Kl} {k : Nat} (x : Kl) : x ∈ firstN l l.length ↔ x ∈ rotN l k l.length := by
  unfold firstN rotN
  rw [puts_iff firstN_gen, puts_iff rotN_gen, List.take_length]
  constructor
  · intro h
    obtain ⟨y, hy, rfl⟩ := List.mem_map.1 h
    obtain ⟨p, hp⟩ := List.mem_iff_getElem?.1 hy
    have hpl := (List.getElem?_eq_some_iff.1 hp).1
    refine List.mem_map.2 ⟨(p + (l.length - k % l.length)) % l.length, List.mem_range.2 (Nat.mod_lt _ (by omega)), ?_⟩
    have e : ((p + (l.length - k % l.length)) % l.length + k) % l.length = p := by
      have h1 : k % l.length < l.length := Nat.mod_lt _ (by omega)
      rw [Nat.mod_add_mod, ← Nat.add_mod_mod, show p + (l.length - k % l.length) + k % l.length = p + l.length by omega, Nat.add_mod_right, Nat.mod_eq_of_lt hpl]
    unfold atR
    rw [e, hp]
    rfl
  · intro h
    obtain ⟨j, hj, rfl⟩ := List.mem_map.1 h
    exact List.mem_map_of_mem (List.mem_of_getElem? (atR_get (List.mem_range.1 hj)))
theorem less_ltC (a b : Kl) : decide (orI [cmpI a.1 b.1, cmpI a.2.1 b.2.1] < 0) = true ↔ ltC a b := by
  rw [decide_eq_true_iff]
  unfold ltC orI orI orI cmpI
  by_cases h1 : a.1 < b.1
  · simp [h1]
  · by_cases h2 : a.1 > b.1
    · have : a.1 ≠ b.1 := by omega
      simp [h1, h2, this]
    · have h3 : a.1 = b.1 := by omega
      by_cases h4 : a.2.1 < b.2.1
      · simp [h3, h4]
      · by_cases h5 : a.2.1 > b.2.1
        · simp [h3, h4, h5]
        · simp [h3, h4, h5]
set_option maxHeartbeats 4000000 in
set_option maxRecDepth 100000 in
theorem callsOrder (l : List Kl) (hl : l.length ≤ maxLen) (n : Int) : Contract Try.prog G0 5 [.d (.list 3 (rowsK l)), .d (.int .i64 n)] [] (fun r t => r = .d (.bool true) ∧ t = []) := by
  have hlen := rowsK_len l
  refine run5 0 [] rfl rfl ?_
  conv => whnf
  refine .scal [] _ ⟨.refl _, rfl, first25⟩ ?_
  conv => whnf
  refine bcase_intro (fun h => ?_) (fun h => ?_) <;> conv => whnf
  · exact ⟨rfl, rfl⟩
  have h := of_decide_eq_false h
  rw [hlen] at h
  have h30 : l.length ≤ 30 := by omega
  rw [hlen]
  have e1 : IntKind.wrap .i64 ((l.length : Int) + 1) = ((l.length + 1 : Nat) : Int) := by rw [wrap_id (by omega) (by omega)]; rfl
  rw [e1]
  refine .scal [.d (.int .i64 n), .d (.int .i64 ((l.length + 1 : Nat) : Int))] _ ⟨.refl _, rfl, number n (l.length + 1) (by omega) (by omega)⟩ ?_
  have hk := numB_lt n (m := l.length + 1) (by omega)
  generalize numB n (l.length + 1) = k at hk
  conv => whnf
  refine StopG.rounds wk5 [] [0, 1, 5, 6, 7, 8, 9] (fun m env s => ∃ i : Nat, i ≤ l.length ∧ m = l.length - i ∧ env = [(0, .d (.list 3 (rowsK l))), (1, .d (.int .i64 n)), (5, .d (.bool true)), (6, .ref (.g 0) 0), (7, .ref (.g 1) 0), (8, .d (.int .i64 (k : Int))), (9, .d (.int .i64 (i : Int)))] ∧
    ((i = 0 ∧ s = [(0, nilC), (1, nilC)]) ∨ (0 < i ∧ s = [(0, .cells [.mp (.g 2)]), (1, .cells [.mp (.g 3)]), (2, .dmap (encL (firstN l i))), (3, .dmap (encL (rotN l k i)))]))) rfl ?_ ?_
  · conv => whnf
    exact ⟨_, 0, Nat.zero_le _, rfl, rfl, .inl ⟨rfl, rfl⟩⟩
  rintro m env s ⟨i, hi, rfl, rfl, ⟨rfl, rfl⟩ | ⟨hi0, rfl⟩⟩
  · conv => whnf
    refine bcase_intro (fun h => ?_) (fun h => ?_) <;> conv => whnf
    · have hil := lt_of h
      rw [hlen] at hil
      obtain ⟨x, hx, _⟩ := at_i hil
      refine ⟨rowK x, ⟨by omega, row_i hx⟩, ?_⟩
      conv => whnf
      refine .obj rfl ?_
      conv => whnf
      refine ⟨_, _, ⟨WkL.refl _, put_none (g3 x)⟩, fun res s1 h => ?_⟩
      obtain ⟨rfl, rfl⟩ := h
      conv => whnf
      have hy := atR_get (l := l) (k := k) hil
      rw [hlen]
      refine ⟨⟨rfl, by omega⟩, ?_⟩
      rw [sum_mod (by omega)]
      conv => whnf
      refine ⟨rowK (atR l k 0), ⟨by omega, row_i hy⟩, ?_⟩
      conv => whnf
      refine .obj rfl ?_
      conv => whnf
      refine ⟨_, _, ⟨WkL.refl _, put_none (g3 (atR l k 0))⟩, fun res s1 h => ?_⟩
      obtain ⟨rfl, rfl⟩ := h
      conv => whnf
      rw [succ_i hil (by omega)]
      have f1 : firstN l (0 + 1) = [g3 x] := by rw [firstN_succ hx]; rfl
      have f2 : rotN l k (0 + 1) = [g3 (atR l k 0)] := by rw [rotN_succ]; rfl
      refine ⟨_, by omega, 0 + 1, hil, rfl, rfl, .inr ⟨by omega, ?_⟩⟩
      rw [f1, f2]
    · have hil := ge_of h
      rw [hlen] at hil
      have hl0 : l = [] := List.eq_nil_of_length_eq_zero (by omega)
      subst hl0
      refine .obj rfl ?_
      conv => whnf
      refine ⟨_, _, ⟨WkL.refl _, all27_none⟩, fun res s1 h => ?_⟩
      obtain ⟨rfl, rfl⟩ := h
      conv => whnf
      refine StopG.rounds wk5 [] [0, 5, 6, 7, 10, 11] (fun m env s => m = 0 ∧ env = [(0, .d (.list 3 [])), (5, .d (.bool true)), (6, .ref (.g 0) 0), (7, .ref (.g 1) 0), (10, .d (.list 3 [])), (11, .d (.int .i64 0))] ∧ s = [(0, nilC), (1, nilC)]) rfl ?_ ?_
      · conv => whnf
        exact ⟨_, rfl, rfl, rfl⟩
      rintro m env s ⟨rfl, rfl, rfl⟩
      conv => whnf
      refine StopG.rounds wk5 [] [0, 5, 6, 7, 10, 12] (fun m env s => m = 0 ∧ env = [(0, .d (.list 3 [])), (5, .d (.bool true)), (6, .ref (.g 0) 0), (7, .ref (.g 1) 0), (10, .d (.list 3 [])), (12, .d (.int .i64 0))] ∧ s = [(0, nilC), (1, nilC)]) rfl ?_ ?_
      · conv => whnf
        exact ⟨_, rfl, rfl, rfl⟩
      rintro m env s ⟨rfl, rfl, rfl⟩
      conv => whnf
      refine .objg (fun _ => ?_) (fun h => absurd ?_ h)
      · conv => whnf
        refine ⟨_, _, ⟨WkL.refl _, all27_none⟩, fun res s1 h => ?_⟩
        obtain ⟨rfl, rfl⟩ := h
        conv => whnf
        refine .scal [.d (.list 3 (rowsK [])), .d (.list 3 (rowsK []))] _ (fun _ => ⟨.refl _, rfl, sameLatchs30 [] [] (by decide)⟩) ?_
        conv => whnf
        refine .scal [calV 2 (-1), calV 2 1] _ (fun _ => ⟨.refl _, rfl, less28 _ _ _ _⟩) ?_
        conv => whnf
        exact ⟨rfl, rfl⟩
      · simp [HG, lit, rfind]
  · have hx0 := firstN_ne hi0 hi
    have hy0 := rotN_ne (l := l) (k := k) hi0
    rcases Nat.lt_or_ge i l.length with hil | hil
    · obtain ⟨x, hx, _⟩ := at_i hil
      conv => whnf
      rw [hlen, decide_eq_true (show (i : Int) < (l.length : Int) by omega)]
      conv => whnf
      refine ⟨rowK x, ⟨by omega, row_i hx⟩, ?_⟩
      conv => whnf
      refine .obj rfl ?_
      conv => whnf
      refine ⟨_, _, ⟨WkL.refl _, put_some (firstN l i) (puts_ks _) hx0 (g3 x)⟩, fun res s1 h => ?_⟩
      obtain ⟨rfl, rfl⟩ := h
      conv => whnf
      have hy := atR_get (l := l) (k := k) hil
      rw [hlen]
      refine ⟨⟨rfl, by omega⟩, ?_⟩
      rw [sum_mod (by omega)]
      conv => whnf
      refine ⟨rowK (atR l k i), ⟨by omega, row_i hy⟩, ?_⟩
      conv => whnf
      refine .obj rfl ?_
      conv => whnf
      refine ⟨_, _, ⟨WkL.refl _, put_some (rotN l k i) (puts_ks _) hy0 (g3 (atR l k i))⟩, fun res s1 h => ?_⟩
      obtain ⟨rfl, rfl⟩ := h
      conv => whnf
      rw [succ_i hil (by omega)]
      refine ⟨_, by omega, i + 1, hil, rfl, rfl, .inr ⟨by omega, ?_⟩⟩
      rw [firstN_succ hx, rotN_succ]
    · conv => whnf
      rw [hlen, decide_eq_false (show ¬ (i : Int) < (l.length : Int) by omega)]
      conv => whnf
      have hie : i = l.length := by omega
      subst hie
      have hAk := puts_ks ((l.take l.length).map g3)
      have hBk := puts_ks ((List.range l.length).map fun j => g3 (atR l k j))
      have hAl := puts_len ((l.take l.length).map g3)
      have hBl := puts_len ((List.range l.length).map fun j => g3 (atR l k j))
      rw [List.length_map, List.length_take, Nat.min_self] at hAl
      rw [List.length_map, List.length_range] at hBl
      have hsame := same_sets (l := l) (k := k)
      have hg3 : ∀ x ∈ firstN l l.length, x.2.2 = 3 := fun x hx => firstN_gen x (puts_mem hx)
      have hhas : ∀ x ∈ l, (getL (firstN l l.length) (keyC x)).isSome = true := fun x hx => by
        refine getL_has ?_
        have := puts_key (ks := (l.take l.length).map g3) (k := g3 x) (List.mem_map_of_mem (by rw [List.take_length]; exact hx))
        exact this
      change Ks (firstN l l.length) at hAk
      change Ks (rotN l k l.length) at hBk
      change (firstN l l.length).length ≤ l.length at hAl
      change (rotN l k l.length).length ≤ l.length at hBl
      generalize firstN l l.length = A at *
      generalize rotN l k l.length = B at *
      refine .obj rfl ?_
      conv => whnf
      refine ⟨_, _, ⟨WkL.refl _, all27 A (by omega)⟩, fun res s1 h => ?_⟩
      obtain ⟨q, hq, hqs, ⟨rfl, _, _⟩ | ⟨c, hc, rfl, rfl⟩⟩ := h
      · exact absurd hq.symm.eq_nil hx0
      have hqk := perm_ks hq hAk
      have hql := srd_lt hqs hqk
      have hqn := hq.length_eq
      have hqr := rowsK_len q
      conv => whnf
      refine StopG.roundsM wk5 [] [0, 5, 6, 7, 10, 11] (fun m env s => ∃ j : Nat, j ≤ q.length ∧ m = q.length - j ∧ env = [(0, .d (.list 3 (rowsK l))), (5, .d (.bool true)), (6, .ref (.g 0) 0), (7, .ref (.g 1) 0), (10, .d (.list 3 (rowsK q))), (11, .d (.int .i64 (j : Int)))] ∧
        s = [(0, .cells [.mp (.g 2)]), (1, .cells [.mp (.g 3)]), (2, .dmap (encL A)), (3, .dmap (encL B))]) rfl ?_ ?_
      · refine ⟨_, _, GV.freeze 4 rfl (by simp) (by repeat' first | exact trivial | apply And.intro | decide | (simp; done) | omega) (by repeat' first | exact trivial | apply And.intro | decide | (simp; done)), ?_⟩
        conv => whnf
        rw [List.drop_zero, List.take_of_length_le (by omega)]
        exact ⟨_, 0, Nat.zero_le _, rfl, rfl, rfl⟩
      rintro m env s ⟨j, hj, rfl, rfl, rfl⟩
      conv => whnf
      refine bcase_intro (fun h => ?_) (fun h => ?_) <;> conv => whnf
      · have hjl := lt_of h
        rw [hqr] at hjl
        obtain ⟨x, hx, _⟩ := at_i hjl
        have hxg := hg3 x (hq.subset (List.mem_of_getElem? hx))
        obtain ⟨y, hy⟩ : ∃ y : Kl, y = (q[j - 1]?).getD (0, 0, 0) := ⟨_, rfl⟩
        refine ⟨rowK y, (fun hg => ?_), ?_⟩
        · have hj0 : 0 < j := by
            have := of_decide_eq_true (show decide ((j : Int) > 0) = true from hg)
            omega
          have e : IntKind.wrap .i64 ((j : Int) - 1) = ((j - 1 : Nat) : Int) := by
            rw [wrap_id (by omega) (by omega)]; omega
          rw [e]
          exact ⟨by omega, row_i (by rw [hy, List.getElem?_eq_getElem (show j - 1 < q.length by omega)]; rfl)⟩
        conv => whnf
        refine ⟨rowK x, (fun _ => ⟨by omega, row_i hx⟩), ?_⟩
        conv => whnf
        refine .scal [calV y.1 y.2.1, calV x.1 x.2.1] _ (fun _ => ⟨.refl _, rfl, less28 _ _ _ _⟩) ?_
        conv => whnf
        refine ⟨rowK x, (fun _ => ⟨by omega, row_i hx⟩), ?_⟩
        conv => whnf
        refine bcase_intro (fun hg => ?_) (fun hg => ?_)
        · exfalso
          have hg : (bif (bif decide ((j : Int) > 0) then !decide (orI [cmpI y.1 x.1, cmpI y.2.1 x.2.1] < 0) else false) then true else x.2.2 != 3) = true := hg
          rw [hxg] at hg
          rcases Nat.eq_zero_or_pos j with hj0 | hj0
          · subst hj0
            simp at hg
          · have hlt : ltC y x := by
              have := List.pairwise_iff_getElem.1 hql (j - 1) j (by omega) hjl (by omega)
              rw [(List.getElem?_eq_some_iff.1 hx).2] at this
              rw [hy, List.getElem?_eq_getElem (show j - 1 < q.length by omega)]
              exact this
            rw [(less_ltC y x).2 hlt] at hg
            cases hd : decide ((j : Int) > 0) <;> rw [hd] at hg <;> simp at hg
        conv => whnf
        refine ⟨_, _, .refl, ?_⟩
        conv => whnf
        rw [succ_i hjl (by omega)]
        exact ⟨_, by omega, j + 1, hjl, rfl, rfl, rfl⟩
      · refine StopG.rounds wk5 [] [0, 5, 6, 7, 10, 12] (fun m env s => ∃ i : Nat, i ≤ l.length ∧ m = l.length - i ∧ env = [(0, .d (.list 3 (rowsK l))), (5, .d (.bool true)), (6, .ref (.g 0) 0), (7, .ref (.g 1) 0), (10, .d (.list 3 (rowsK q))), (12, .d (.int .i64 (i : Int)))] ∧
          s = [(0, .cells [.mp (.g 2)]), (1, .cells [.mp (.g 3)]), (2, .dmap (encL A)), (3, .dmap (encL B))]) rfl ?_ ?_
        · conv => whnf
          exact ⟨_, 0, Nat.zero_le _, rfl, rfl, rfl⟩
        rintro m env s ⟨i, hi, rfl, rfl, rfl⟩
        conv => whnf
        refine bcase_intro (fun h => ?_) (fun h => ?_) <;> conv => whnf
        · have hil := lt_of h
          rw [hlen] at hil
          obtain ⟨x, hx, _⟩ := at_i hil
          refine ⟨rowK x, ⟨by omega, row_i hx⟩, ?_⟩
          conv => whnf
          refine .obj rfl ?_
          conv => whnf
          have hh := has_some A hAk (keyC x)
          rw [hhas x (List.mem_of_getElem? hx)] at hh
          refine ⟨_, _, ⟨WkL.refl _, hh⟩, fun res s1 h => ?_⟩
          obtain ⟨rfl, rfl⟩ := h
          conv => whnf
          rw [succ_i hil (by omega)]
          exact ⟨_, by omega, i + 1, hil, rfl, rfl, rfl⟩
        · refine .objg (fun _ => ?_) (fun h => absurd ?_ h)
          · conv => whnf
            refine ⟨_, _, ⟨WkL.refl _, all27 B (by omega)⟩, fun res s1 h => ?_⟩
            obtain ⟨q2, hq2, hqs2, ⟨rfl, _, _⟩ | ⟨c2, hc2, rfl, rfl⟩⟩ := h
            · exact absurd hq2.symm.eq_nil hy0
            have heq : q = q2 := uniqC hql (srd_lt hqs2 (perm_ks hq2 hBk)) fun x => by rw [hq.mem_iff, hq2.mem_iff]; exact hsame x
            subst heq
            conv => whnf
            refine .scal [.d (.list 3 (rowsK q)), .d (.list 3 (rowsK q))] _ (fun _ => ⟨?_, rfl, sameLatchs30 q q (by omega)⟩) ?_
            · exact .s _ (.own 4 3 0 q.length c2 (rowsK q) (rowsK q) rfl (by omega) (by decide) (by rw [List.drop_zero, List.take_of_length_le (by omega)]) .nil)
            conv => whnf
            refine .scal [calV 2 (-1), calV 2 1] _ (fun _ => ⟨.refl _, rfl, less28 _ _ _ _⟩) ?_
            conv => whnf
            rw [eqLs_refl fun x _ => by simp [sameK]]
            exact ⟨rfl, rfl⟩
          · simp [HG, lit, rfind]
end Go.Proofs.Ytkenimmellonjaa
/- Seat r2: whatever order latches are put in: what comes in. -/
namespace Go.Proofs.Ytkenimmellonjaa
open Go.Pv Go.RowKit
theorem dat_lat {n : Nat} {r : List DV} (h : Dat T (n + 3) 38 r) : ∃ k : Int × Int × Int, r = rowK k := by
  obtain ⟨_, _, rfl, ⟨_, _, rfl, ⟨fl, _, _, rfl⟩, _, _, rfl, ⟨dr, _, _, rfl⟩, rfl⟩, _, _, rfl, ⟨gn, _, _, rfl⟩, rfl⟩ := h
  exact ⟨(fl, dr, gn), rfl⟩
theorem dat_lats {n : Nat} {r : List DV} (h : Dat T (n + 4) 30 r) : ∃ (x : DV) (l : List (Int × Int × Int)), r = [x] ∧ l.length ≤ maxLen ∧ WkD x (.list 3 (rowsK l)) := by
  rcases h with h | ⟨rows, h1, h2, h⟩
  · exact ⟨.nil, [], h, by simp, WkD.nil 3⟩
  · have : ∃ l : List (Int × Int × Int), rows = rowsK l := by
      clear h1 h
      induction rows with
      | nil => exact ⟨[], rfl⟩
      | cons r rs ih =>
        obtain ⟨l, h3⟩ := ih fun x hx => h2 x (List.mem_cons_of_mem _ hx)
        obtain ⟨b, h4⟩ := dat_lat (h2 r (List.mem_cons_self ..))
        exact ⟨b :: l, by rw [h3, h4]; rfl⟩
    obtain ⟨l, rfl⟩ := this
    exact ⟨_, l, h, by simpa [rowsK] using h1, WkD.refl _⟩
theorem arg_lats {n : Nat} {x : AV} (h : ArgD T (n + 5) 30 x) : ∃ l : List (Int × Int × Int), l.length ≤ maxLen ∧ ∀ {r r' : List AV}, WkL r r' → WkL (x :: r) (.d (.list 3 (rowsK l)) :: r') := by
  obtain ⟨y, h, rfl⟩ := h
  obtain ⟨z, l, hz, hl, hw⟩ := dat_lats h
  cases hz
  exact ⟨l, hl, fun h => .w hw h⟩
end Go.Proofs.Ytkenimmellonjaa
