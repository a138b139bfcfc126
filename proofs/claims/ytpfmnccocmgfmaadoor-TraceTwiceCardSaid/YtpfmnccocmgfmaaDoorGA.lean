/- The seat's texts, part 1: what single functions of the program compute; no statement of its own. -/
import Derived.Test.YtpfmnccocmgfmaaDoorRn
import Derived.Test.YtpfmnccocmgfmaaDoorFrD
import Derived.Test.YtpfmnccocmgfmaaDoorSp
/- Seat D: errors told apart. -/
namespace Go.Proofs.YtpfmnccocmgfmaaDoor
open Go.Pv Go.RowKit
/-- The error of variable g. -/
abbrev errD (bs : Nat → Addr) (g : Nat) : DV := .iface 176 (.raw (.pointer (some (bs g))))
/-- Each has a block of its own. -/
def Apart (bs : Nat → Addr) : Prop := ∀ i j, i < 13 → j < 13 → bs i = bs j → i = j
theorem pinned {bs : Nat → Addr} {g : Nat} (h : g < 13) : (G0 bs (bs g).block).isSome = true := by
  unfold G0
  split
  · rfl
  · have : ((List.range 13).any fun k => Nat.beq (bs k).block (bs g).block) = true := List.any_eq_true.2 ⟨g, List.mem_range.2 h, Nat.beq_refl _⟩
    rw [this]
    rfl
def ordE : List Nat := [4, 5, 0, 6, 7, 8, 1, 9, 2, 10, 3, 11, 12]
def posE (g : Nat) : Nat := ordE.findIdx fun x => x == g
def codeE (g : Nat) : Int := 101 + (posE g : Int)
abbrev faultV (c : Int) (p : Bool) (q : Int) : AV := .agg [.d (.int .i64 c), .d (.bool p), .d (.int .i64 q)]
set_option maxRecDepth 100000 in
theorem none22 {bs : Nat → Addr} : Contract Tryd.prog (G0 bs) 22 [] [] (fun r t => r = faultV 0 false 0 ∧ t = []) := by
  refine run22 0 [] rfl rfl ?_
  conv => whnf
  exact ⟨rfl, rfl⟩
set_option maxRecDepth 100000 in
theorem bare25 {bs : Nat → Addr} (c : Int) : Contract Tryd.prog (G0 bs) 25 [.d (.int .i64 c)] [] (fun r t => r = faultV c false 0 ∧ t = []) := by
  refine run25 0 [] rfl rfl ?_
  conv => whnf
  exact ⟨rfl, rfl⟩
set_option maxRecDepth 100000 in
theorem placed11 {bs : Nat → Addr} (c p : Int) (h : c ≠ 0) : Contract Tryd.prog (G0 bs) 11 [.d (.int .i64 c), .d (.int .i64 p)] [] (fun r t => r = faultV c true p ∧ t = []) := by
  refine run11 0 [] rfl rfl ?_
  conv => whnf
  refine bcase_intro (fun h1 => ?_) (fun h1 => ?_) <;> conv => whnf
  · exact absurd (by simpa using h1) h
  · exact ⟨rfl, rfl⟩
def sameF (c : Int) (p : Bool) (q : Int) (c' : Int) (p' : Bool) (q' : Int) : Bool := bif (bif c == c' then p == p' else false) then q == q' else false
set_option maxRecDepth 100000 in
theorem same23 {bs : Nat → Addr} (c : Int) (p : Bool) (q : Int) (c' : Int) (p' : Bool) (q' : Int) : Contract Tryd.prog (G0 bs) 23 [faultV c p q, faultV c' p' q'] [] (fun r t => r = .d (.bool (sameF c p q c' p' q')) ∧ t = []) := by
  refine run23 0 [] rfl rfl ?_
  conv => whnf
  exact ⟨rfl, rfl⟩
set_option maxRecDepth 100000 in
theorem alike34 {bs : Nat → Addr} (ha : Apart bs) (g h : Nat) (hg : g < 13) (hh : h < 13) : Contract Tryd.prog (G0 bs) 34 [.d (errD bs g), .d (errD bs h)] [] (fun r t => r = .d (.bool (decide (g = h))) ∧ t = []) := by
  refine run34 0 [] rfl rfl ?_
  conv => whnf
  refine ⟨decide (g = h), ⟨?_, by kernel_rfl⟩, ?_⟩
  · by_cases e : g = h
    · subst e; exact .inl ⟨by simp, rfl⟩
    · exact .inr ⟨by simp [e], fun q => e (ha g h hg hh q), pinned hg, pinned hh⟩
  conv => whnf
  exact ⟨rfl, rfl⟩
def rowsErr (bs : Nat → Addr) : List (List DV) := ordE.map fun g => [errD bs g]
set_option maxRecDepth 100000 in
theorem sentinels33 {bs : Nat → Addr} : Contract Tryd.prog (G0 bs) 33 [] [] (fun r t => r = .d (.list 1 (rowsErr bs)) ∧ t = []) := by
  refine run33 0 [] rfl rfl ?_
  conv => whnf
  exact ⟨rfl, rfl⟩
theorem ordE_pos {g : Nat} (h : g < 13) : posE g < 13 ∧ ordE[posE g]? = some g := by
  have : ∀ g : Fin 13, posE g < 13 ∧ ordE[posE g]? = some g.1 := by decide
  exact this ⟨g, h⟩
theorem ordE_lt {i x : Nat} (h : ordE[i]? = some x) : x < 13 ∧ posE x = i := by
  have hi := (List.getElem?_eq_some_iff.1 h).1
  have : ∀ i : Fin 13, ∀ x, ordE[i.1]? = some x → x < 13 ∧ posE x = i.1 := by decide
  exact this ⟨i, hi⟩ x h
set_option maxRecDepth 100000 in
theorem sentinel26 {bs : Nat → Addr} (ha : Apart bs) (g : Nat) (hg : g < 13) : Contract Tryd.prog (G0 bs) 26 [.d (errD bs g)] [] (fun r t => r = .d (.int .i64 (codeE g)) ∧ t = []) := by
  obtain ⟨hp, hgp⟩ := ordE_pos hg
  refine run26 0 [] rfl rfl ?_
  conv => whnf
  refine .data [] _ ⟨WkL.refl _, rfl, sentinels33⟩ ?_
  conv => whnf
  refine StopG.rounds wk26 [] [0, 3, 4] (fun m env s => ∃ i : Nat, i ≤ posE g ∧ m = 13 - i ∧ env = [(0, .d (errD bs g)), (3, .d (.list 1 (rowsErr bs))), (4, .d (.int .i64 (i : Int)))] ∧ s = []) rfl ?_ ?_
  · conv => whnf
    exact ⟨_, 0, Nat.zero_le _, rfl, rfl, rfl⟩
  rintro m env s ⟨i, hi, rfl, rfl, rfl⟩
  have hlen : (rowsErr bs).length = 13 := rfl
  conv => whnf
  refine bcase_intro (fun h => ?_) (fun h => ?_) <;> conv => whnf
  · have hil := lt_of h
    rw [hlen] at hil
    obtain ⟨x, hx⟩ : ∃ x, ordE[i]? = some x := ⟨_, List.getElem?_eq_getElem hil⟩
    obtain ⟨hx13, hxi⟩ := ordE_lt hx
    refine ⟨[errD bs x], ⟨by omega, by show (rowsErr bs)[i]? = _; rw [rowsErr, List.getElem?_map, hx]; rfl⟩, ?_⟩
    conv => whnf
    refine .scal [.d (errD bs g), .d (errD bs x)] _ ⟨.refl _, rfl, alike34 ha g x hg hx13⟩ ?_
    conv => whnf
    refine bcase_intro (fun h2 => ?_) (fun h2 => ?_) <;> conv => whnf
    · have e := of_decide_eq_true h2
      subst e
      refine ⟨?_, rfl⟩
      rw [wrap_id (by omega) (by omega)]
      show AV.d (.int .i64 (101 + (i : Int))) = _
      rw [codeE, hxi]
    · have e := of_decide_eq_false h2
      rw [succ_i hil (by omega)]
      refine ⟨_, by omega, i + 1, ?_, rfl, rfl, rfl⟩
      have : i ≠ posE g := fun q => e (by rw [q, hgp] at hx; exact Option.some.inj hx)
      omega
  · have hil := ge_of h
    rw [hlen] at hil
    omega
/-- What a check says: nothing, or where, and which. -/
abbrev errA (bs : Nat → Addr) : Option (Int × Nat) → AV
  | none => .d (.raw .nilIface)
  | some (p, g) => .ifc 54 (.d (.ptr [.int .i64 p, errD bs g] 0))
theorem codeE_ne (g : Nat) : codeE g ≠ 0 := by unfold codeE; omega
abbrev faultA : Option (Int × Nat) → AV
  | none => faultV 0 false 0
  | some (p, g) => faultV (codeE g) true p
set_option maxRecDepth 100000 in
theorem fault14 {bs : Nat → Addr} (ha : Apart bs) (r : Option (Int × Nat)) (hr : ∀ p g, r = some (p, g) → g < 13) : Contract Tryd.prog (G0 bs) 14 [errA bs r] [] (fun x t => x = faultA r ∧ t = []) := by
  cases r with
  | none =>
    refine run14 0 [] rfl rfl ?_
    conv => whnf
    refine .data [] _ ⟨WkL.refl _, rfl, none22⟩ ?_
    conv => whnf
    exact ⟨rfl, rfl⟩
  | some y =>
    obtain ⟨p, g⟩ := y
    have hg := hr p g rfl
    refine run14 0 [] rfl rfl ?_
    conv => whnf
    refine .scal [.d (errD bs g)] _ ⟨.refl _, rfl, sentinel26 ha g hg⟩ ?_
    conv => whnf
    refine .data [.d (.int .i64 (codeE g)), .d (.int .i64 p)] _ ⟨WkL.refl _, rfl, placed11 _ _ (codeE_ne g)⟩ ?_
    conv => whnf
    exact ⟨rfl, rfl⟩
def sameR : Option (Int × Nat) → Int → Bool → Int → Bool
  | none => sameF 0 false 0
  | some (p, g) => sameF (codeE g) true p
set_option maxRecDepth 100000 in
theorem same12 {bs : Nat → Addr} (ha : Apart bs) (r : Option (Int × Nat)) (hr : ∀ p g, r = some (p, g) → g < 13) (c : Int) (p : Bool) (q : Int) : Contract Tryd.prog (G0 bs) 12 [errA bs r, faultV c p q] [] (fun x t => x = .d (.bool (sameR r c p q)) ∧ t = []) := by
  refine run12 0 [] rfl rfl ?_
  cases r with
  | none =>
    conv => whnf
    refine .data [errA bs none] _ ⟨WkL.refl _, rfl, fault14 ha none hr⟩ ?_
    conv => whnf
    refine .scal [faultV 0 false 0, faultV c p q] _ ⟨.refl _, rfl, same23 _ _ _ _ _ _⟩ ?_
    conv => whnf
    exact ⟨rfl, rfl⟩
  | some y =>
    obtain ⟨p1, g⟩ := y
    conv => whnf
    refine .data [errA bs (some (p1, g))] _ ⟨WkL.refl _, rfl, fault14 ha (some (p1, g)) hr⟩ ?_
    conv => whnf
    refine .scal [faultV (codeE g) true p1, faultV c p q] _ ⟨.refl _, rfl, same23 _ _ _ _ _ _⟩ ?_
    conv => whnf
    exact ⟨rfl, rfl⟩
end Go.Proofs.YtpfmnccocmgfmaaDoor
/- Seat D: what may be done, as plain laws; how a checker lies in memory. -/
namespace Go.Proofs.YtpfmnccocmgfmaaDoor
open Go.Pv Go.RowKit
abbrev Kl := Int × Int × Int
abbrev Ep := Int × Int
abbrev At := Kl × Ep
structure Cr where
  op : Bool
  bo : Bool
  an : Bool
  fl : Int
  wh : Int
  la : Int
  le : Ep
  cm : List Kl
structure Ck where
  cars : List Cr
  fo : List Ep
  aw : List At
  cl : List (At × Int)
structure Ev where
  kd : Int
  ca : Int
  lt : Kl
  ep : Ep
  fl : Int
  di : Int
def dxK (k : Kl) : DX := .agg [.int .i64 k.1, .int .i64 k.2.1, .int .i64 k.2.2]
def dxE (e : Ep) : DX := .agg [.int .i64 e.1, .int .i64 e.2]
def dxA (a : At) : DX := .agg [.int .i64 a.1.1, .int .i64 a.1.2.1, .int .i64 a.1.2.2, .int .i64 a.2.1, .int .i64 a.2.2]
def one1 {α : Type} (_ : α) : DX := .one (.int .i64 1)
def whoW (a : At × Int) : DX := .one (.int .i64 a.2)
theorem dxK_inj : ∀ a b, dxK a = dxK b → a = b := fun a b h => by
  simp [dxK] at h
  exact Prod.ext h.1 (Prod.ext h.2.1 h.2.2)
theorem dxE_inj : ∀ a b, dxE a = dxE b → a = b := fun a b h => by
  simp [dxE] at h
  exact Prod.ext h.1 h.2
theorem dxA_inj : ∀ a b, dxA a = dxA b → a = b := fun a b h => by
  simp [dxA] at h
  exact Prod.ext (Prod.ext h.1 (Prod.ext h.2.1 h.2.2.1)) (Prod.ext h.2.2.2.1 h.2.2.2.2)
abbrev kE (e : Ep) : Ep := e
abbrev kK (k : Kl) : Kl := k
abbrev kA (a : At) : At := a
abbrev kW (a : At × Int) : At := a.1
abbrev encK (l : List Kl) : List (DX × DX) := encM kK dxK one1 l
abbrev encE (l : List Ep) : List (DX × DX) := encM kE dxE one1 l
abbrev encA (l : List At) : List (DX × DX) := encM kA dxA one1 l
abbrev encW (l : List (At × Int)) : List (DX × DX) := encM kW dxA whoW l
def goodK : Bool × List IntKind := (true, [.i64, .i64, .i64])
def goodE : Bool × List IntKind := (true, [.i64, .i64])
def goodA : Bool × List IntKind := (true, [.i64, .i64, .i64, .i64, .i64])
theorem dxK_good (k : Kl) : kgood goodK (dxK k) = true := by simp [kgood, goodK, dxK, kmatch]
theorem dxE_good (k : Ep) : kgood goodE (dxE k) = true := by simp [kgood, goodE, dxE, kmatch]
theorem dxA_good (k : At) : kgood goodA (dxA k) = true := by simp [kgood, goodA, dxA, kmatch]
theorem heldE : Tryd.prog.stoodInHeld 32 = false := by kernel_rfl
theorem heldK : heldS Tryd.prog T 8 30 = true := by kernel_rfl
theorem heldA : heldS Tryd.prog T 8 119 = true := by kernel_rfl
/-- How often a key is there, as the maps say: 0 or 1. -/
def isIn {α : Type} (o : Option α) : Int := match o with
  | some _ => 1
  | none => 0
def whoOf (o : Option (At × Int)) : Int := match o with
  | some a => a.2
  | none => 0
def lessE (a b : Ep) : Bool := bif decide (a.1 < b.1) then true else bif a.1 == b.1 then decide (a.2 < b.2) else false
def sameE (a b : Ep) : Bool := bif a.1 == b.1 then a.2 == b.2 else false
def ringX (c : Cr) (fo : List Ep) (e : Ev) : Except Nat (Cr × List Ep) :=
  bif (bif !lessE c.le e.ep then true else bif c.an then decide (e.ep.1 ≤ c.le.1) else false) then .error 9
  else bif (bif e.kd == 3 then decide (isIn (aget kE fo e.ep) > 0) else false) then .error 3
  else .ok ({ c with le := e.ep, an := false, cm := [] }, bif e.kd == 3 then aput kE fo e.ep else fo)
def claimX (c : Cr) (cl : List (At × Int)) (e : Ev) : Except Nat (Cr × List (At × Int)) :=
  bif !sameE e.ep c.le then .error 9
  else bif (bif (bif decide (whoOf (aget kW cl (e.lt, e.ep)) > 0) then whoOf (aget kW cl (e.lt, e.ep)) != IntKind.wrap .i64 (e.ca + 1) else false) then true else decide (isIn (aget kK c.cm e.lt) > 0)) then .error 3
  else .ok ({ c with cm := aput kK c.cm e.lt }, aput kW cl ((e.lt, e.ep), IntKind.wrap .i64 (e.ca + 1)))
def clearX (c : Cr) (e : Ev) : Except Nat Cr :=
  bif !c.op then .error 2
  else bif (bif e.fl != c.wh then true else e.lt.1 != c.wh) then .error 10
  else bif e.lt.2.1 != c.la then .error 9
  else bif isIn (aget kK c.cm e.lt) == 0 then .error 8
  else .ok { c with cm := adel kK c.cm e.lt }
def moveX (floors : Int) (c : Cr) (e : Ev) : Except Nat Cr :=
  bif c.op != (e.kd == 6) then .error 2
  else bif (bif (bif e.kd == 6 then e.fl != c.wh else false) then true else bif e.kd != 6 then (bif decide (e.fl < 0) then true else decide (e.fl ≥ floors)) else false) then .error 10
  else bif (bif (bif e.kd == 5 then (bif decide (e.di < -1) then true else decide (e.di > 1)) else false) then true else bif (bif e.kd == 7 then e.di != 1 else false) then e.di != -1 else false) then .error 9
  else .ok (bif e.kd == 5 then { c with op := true, fl := e.fl, wh := e.fl, la := e.di } else { c with op := false, fl := e.fl })
theorem ringX_cm {c c' : Cr} {fo fo' : List Ep} {e : Ev} (h : ringX c fo e = .ok (c', fo')) : c'.cm = [] := by
  unfold ringX at h
  cases h1 : (bif !lessE c.le e.ep then true else bif c.an then decide (e.ep.1 ≤ c.le.1) else false) <;> rw [h1] at h
  · cases h2 : (bif e.kd == 3 then decide (isIn (aget kE fo e.ep) > 0) else false) <;> rw [h2] at h
    · cases h; rfl
    · cases h
  · cases h
/-- What car i's event comes to. -/
def carX (floors : Int) (k : Ck) (i : Nat) (c : Cr) (e : Ev) : Except Nat Ck :=
  bif e.kd == 9 then (bif c.op then .error 2 else .ok { k with cars := k.cars.set i { c with bo := true, an := true, cm := [] } })
  else bif (bif e.kd == 3 then true else e.kd == 4) then (match ringX c k.fo e with
    | .error g => .error g
    | .ok (c', fo) => .ok { k with cars := k.cars.set i c', fo := fo })
  else bif e.kd == 2 then (bif decide (isIn (aget kA k.aw (e.lt, e.ep)) > 0) then .error 3 else .ok { k with aw := aput kA k.aw (e.lt, e.ep) })
  else bif e.kd == 1 then (match claimX c k.cl e with
    | .error g => .error g
    | .ok (c', cl) => .ok { k with cars := k.cars.set i c', cl := cl })
  else bif e.kd == 8 then (match clearX c e with
    | .error g => .error g
    | .ok c' => .ok { k with cars := k.cars.set i c' })
  else bif e.kd == 10 then .ok { k with cars := k.cars.set i { c with cm := [] } }
  else bif (bif (bif e.kd == 5 then true else e.kd == 6) then true else e.kd == 7) then (match moveX floors c e with
    | .error g => .error g
    | .ok c' => .ok { k with cars := k.cars.set i c' })
  else .ok k
def eventX (floors : Int) (k : Ck) (e : Ev) : Except Nat Ck :=
  if e.kd < 1 ∨ e.kd > 11 then .error 1
  else if e.ca < 0 ∨ e.ca ≥ (k.cars.length : Int) then .error 0
  else match k.cars[e.ca.toNat]? with
    | some c => carX floors k e.ca.toNat c e
    | none => .error 0
/-- All of them, from the beginning. -/
def allX (floors : Int) : Ck → List Ev → Nat → Except (Nat × Nat) Ck
  | k, [], _ => .ok k
  | k, e :: r, i => match eventX floors k e with
    | .error g => .error (i, g)
    | .ok k' => allX floors k' r (i + 1)
/-- How it lies in memory. -/
abbrev iV (n : Int) : AV := .d (.int .i64 n)
abbrev bV (b : Bool) : AV := .d (.bool b)
abbrev evV (e : Ev) : AV := .agg [iV e.kd, iV e.ca, iV e.lt.1, iV e.lt.2.1, iV e.lt.2.2, iV e.ep.1, iV e.ep.2, iV e.fl, iV e.di]
abbrev carR (c : Cr) (id : Nat) : List AV := [bV c.op, bV c.bo, bV c.an, iV c.fl, iV c.wh, iV c.la, iV c.le.1, iV c.le.2, .mp (.g id)]
abbrev chk (h1 h2 h3 h4 : Int) (n : Nat) : AB := .cells [iV h1, iV h2, iV h3, iV h4, .slc (.g 1) 9 0 n n, .mp (.g 2), .mp (.g 3), .mp (.g 4)]
abbrev epV (e : Ep) : AV := .agg [iV e.1, iV e.2]
set_option maxRecDepth 100000 in
theorem less69 {bs : Nat → Addr} (a b : Ep) : Contract Tryd.prog (G0 bs) 69 [epV a, epV b] [] (fun r t => r = .d (.bool (lessE a b)) ∧ t = []) := by
  refine run69 0 [] rfl rfl ?_
  conv => whnf
  exact ⟨rfl, rfl⟩
structure Nds (k : Ck) : Prop where
  fo : (k.fo.map kE).Nodup
  aw : (k.aw.map kA).Nodup
  cl : (k.cl.map kW).Nodup
  cm : ∀ c ∈ k.cars, (c.cm.map kK).Nodup
end Go.Proofs.YtpfmnccocmgfmaaDoor
/- Seat D: a checker's methods, of 1 car: printed by mk_s4d.py. -/
namespace Go.Proofs.YtpfmnccocmgfmaaDoor
open Go.Pv Go.RowKit
set_option maxHeartbeats 1000000 in
set_option maxRecDepth 100000 in
theorem ring50_1_0 {bs : Nat → Addr} (q1 q2 q3 q4 : Int) (c0 : Cr) (fo : List Ep) (aw : List At) (cl : List (At × Int)) (e : Ev) (hfo : (fo.map kE).Nodup) : Contract Tryd.prog (G0 bs) 50 [.ref (.g 0) 0, .el (.g 1) 9 0 0, evV e] [(0, chk q1 q2 q3 q4 1), (1, .arow 9 [carR c0 5]), (2, .dmap (encE fo)), (3, .dmap (encA aw)), (4, .dmap (encW cl)), (5, .dmap (encK c0.cm))] (fun r t => match ringX c0 fo e with
    | .error g => r = .d (errD bs g) ∧ t = [(0, chk q1 q2 q3 q4 1), (1, .arow 9 [carR c0 5]), (2, .dmap (encE fo)), (3, .dmap (encA aw)), (4, .dmap (encW cl)), (5, .dmap (encK c0.cm))]
    | .ok (c', fo') => r = .d (.raw .nilIface) ∧ t = [(0, chk q1 q2 q3 q4 1), (1, .arow 9 [carR c' 6]), (2, .dmap (encE fo')), (3, .dmap (encA aw)), (4, .dmap (encW cl)), (5, .dmap (encK c0.cm)), (6, .dmap (encK []))]) := by
  obtain ⟨X, hX⟩ : ∃ X, ringX c0 fo e = X := ⟨_, rfl⟩
  rw [hX]
  unfold ringX at hX
  have hg := dget_enc (ev := one1) dxE_inj hfo e.ep
  refine run50 6 [] rfl rfl ?_
  conv => whnf
  refine ⟨carR c0 5, rfl, rfl, ?_⟩
  conv => whnf
  refine .scal [epV c0.le, epV e.ep] _ ⟨.refl _, rfl, less69 _ _⟩ ?_
  conv => whnf
  refine ⟨carR c0 5, fun _ => rfl, rfl, ?_⟩
  conv => whnf
  refine ⟨carR c0 5, fun _ => rfl, rfl, ?_⟩
  conv => whnf
  refine bcase_intro (fun h1 => ?_) (fun h1 => ?_) <;> conv => whnf
  · have h1 : (bif !lessE c0.le e.ep then true else bif c0.an then decide (e.ep.1 ≤ c0.le.1) else false) = true := h1
    rw [h1] at hX
    subst hX
    exact ⟨rfl, rfl⟩
  have h1 : (bif !lessE c0.le e.ep then true else bif c0.an then decide (e.ep.1 ≤ c0.le.1) else false) = false := h1
  rw [h1] at hX
  cases hf : aget kE fo e.ep with
  | none =>
    rw [hf] at hg hX
    refine ⟨heldE, .none, fun _ => ⟨dxE_good _, good_enc dxE_good fo, hg⟩, ?_⟩
    conv => whnf
    refine bcase_intro (fun h2 => ?_) (fun h2 => ?_) <;> conv => whnf
    · exfalso
      have h2 : (bif e.kd == 3 then decide ((0 : Int) > 0) else false) = true := h2
      cases e.kd == 3 <;> simp at h2 
    refine bcase_intro (fun h3 => ?_) (fun h3 => ?_) <;> conv => whnf
    · have h3 : (e.kd == 3) = true := h3
      rw [h3] at hX
      refine ⟨heldE, encE (aput kE fo e.ep), ⟨dxE_good _, good_enc dxE_good fo, dput_enc dxE_inj hfo e.ep⟩, ?_⟩
      conv => whnf
      refine ⟨carR c0 5, rfl, ?_⟩
      conv => whnf
      refine ⟨_, rfl, ?_⟩
      conv => whnf
      refine ⟨_, rfl, ?_⟩
      conv => whnf
      subst hX
      exact ⟨rfl, rfl⟩
    · have h3 : (e.kd == 3) = false := h3
      rw [h3] at hX
      refine ⟨carR c0 5, rfl, ?_⟩
      conv => whnf
      refine ⟨_, rfl, ?_⟩
      conv => whnf
      refine ⟨_, rfl, ?_⟩
      conv => whnf
      subst hX
      exact ⟨rfl, rfl⟩
  | some y =>
    rw [hf] at hg hX
    refine ⟨heldE, .some (.one (.int .i64 1)), fun _ => ⟨dxE_good _, good_enc dxE_good fo, hg⟩, ?_⟩
    conv => whnf
    refine bcase_intro (fun h2 => ?_) (fun h2 => ?_) <;> conv => whnf
    · have h2 : (bif e.kd == 3 then decide ((1 : Int) > 0) else false) = true := h2
      have hX : (bif (bif e.kd == 3 then decide ((1 : Int) > 0) else false) then _ else _) = X := hX
      rw [h2] at hX
      subst hX
      exact ⟨rfl, rfl⟩
    have h2 : (bif e.kd == 3 then decide ((1 : Int) > 0) else false) = false := h2
    have hX : (bif (bif e.kd == 3 then decide ((1 : Int) > 0) else false) then _ else _) = X := hX
    rw [h2] at hX
    refine bcase_intro (fun h3 => ?_) (fun h3 => ?_) <;> conv => whnf
    · exfalso
      have h3 : (e.kd == 3) = true := h3
      rw [h3] at h2
      cases h2
    · have h3 : (e.kd == 3) = false := h3
      rw [h3] at hX
      refine ⟨carR c0 5, rfl, ?_⟩
      conv => whnf
      refine ⟨_, rfl, ?_⟩
      conv => whnf
      refine ⟨_, rfl, ?_⟩
      conv => whnf
      subst hX
      exact ⟨rfl, rfl⟩
set_option maxHeartbeats 1000000 in
set_option maxRecDepth 100000 in
theorem claim51_1_0 {bs : Nat → Addr} (q1 q2 q3 q4 : Int) (c0 : Cr) (fo : List Ep) (aw : List At) (cl : List (At × Int)) (e : Ev) (hcl : (cl.map kW).Nodup) (hcm : (c0.cm.map kK).Nodup) : Contract Tryd.prog (G0 bs) 51 [.ref (.g 0) 0, .el (.g 1) 9 0 0, evV e] [(0, chk q1 q2 q3 q4 1), (1, .arow 9 [carR c0 5]), (2, .dmap (encE fo)), (3, .dmap (encA aw)), (4, .dmap (encW cl)), (5, .dmap (encK c0.cm))] (fun r t => match claimX c0 cl e with
    | .error g => r = .d (errD bs g) ∧ t = [(0, chk q1 q2 q3 q4 1), (1, .arow 9 [carR c0 5]), (2, .dmap (encE fo)), (3, .dmap (encA aw)), (4, .dmap (encW cl)), (5, .dmap (encK c0.cm))]
    | .ok (c', cl') => r = .d (.raw .nilIface) ∧ t = [(0, chk q1 q2 q3 q4 1), (1, .arow 9 [carR c' 5]), (2, .dmap (encE fo)), (3, .dmap (encA aw)), (4, .dmap (encW cl')), (5, .dmap (encK c'.cm))]) := by
  obtain ⟨X, hX⟩ : ∃ X, claimX c0 cl e = X := ⟨_, rfl⟩
  rw [hX]
  unfold claimX at hX
  have hg := dget_enc (ev := whoW) dxA_inj hcl (e.lt, e.ep)
  have hk := dget_enc (ev := one1) dxK_inj hcm e.lt
  refine run51 6 [] rfl rfl ?_
  conv => whnf
  cases hf : aget kW cl (e.lt, e.ep) with
  | none =>
    rw [hf] at hg hX
    refine ⟨heldA, .none, ⟨dxA_good (e.lt, e.ep), good_enc dxA_good cl, hg⟩, ?_⟩
    conv => whnf
    refine ⟨carR c0 5, rfl, rfl, ?_⟩
    conv => whnf
    refine ⟨⟨by kernel_rfl, by kernel_rfl⟩, ?_⟩
    conv => whnf
    refine bcase_intro (fun h1 => ?_) (fun h1 => ?_) <;> conv => whnf
    · have h1 : (!sameE e.ep c0.le) = true := h1
      rw [h1] at hX
      subst hX
      exact ⟨rfl, rfl⟩
    have h1 : (!sameE e.ep c0.le) = false := h1
    rw [h1] at hX
    refine ⟨carR c0 5, fun _ => rfl, rfl, ?_⟩
    conv => whnf
    cases hm : aget kK c0.cm e.lt with
    | none =>
      rw [hm] at hk hX
      refine ⟨heldK, .none, fun _ => ⟨dxK_good _, good_enc dxK_good c0.cm, hk⟩, ?_⟩
      conv => whnf
      refine ⟨heldA, encW (aput kW cl ((e.lt, e.ep), IntKind.wrap .i64 (e.ca + 1))), ⟨dxA_good (e.lt, e.ep), good_enc dxA_good cl, dput_enc (ev := whoW) dxA_inj hcl ((e.lt, e.ep), IntKind.wrap .i64 (e.ca + 1))⟩, ?_⟩
      conv => whnf
      refine ⟨carR c0 5, rfl, rfl, ?_⟩
      conv => whnf
      refine ⟨heldK, encK (aput kK c0.cm e.lt), ⟨dxK_good _, good_enc dxK_good c0.cm, dput_enc (ev := one1) dxK_inj hcm e.lt⟩, ?_⟩
      conv => whnf
      subst hX
      exact ⟨rfl, rfl⟩
    | some z =>
      rw [hm] at hk hX
      refine ⟨heldK, .some (.one (.int .i64 1)), fun _ => ⟨dxK_good _, good_enc dxK_good c0.cm, hk⟩, ?_⟩
      conv => whnf
      subst hX
      exact ⟨rfl, rfl⟩
  | some y =>
    rw [hf] at hg hX
    refine ⟨heldA, .some (.one (.int .i64 y.2)), ⟨dxA_good (e.lt, e.ep), good_enc dxA_good cl, hg⟩, ?_⟩
    conv => whnf
    refine ⟨carR c0 5, rfl, rfl, ?_⟩
    conv => whnf
    refine ⟨⟨by kernel_rfl, by kernel_rfl⟩, ?_⟩
    conv => whnf
    refine bcase_intro (fun h1 => ?_) (fun h1 => ?_) <;> conv => whnf
    · have h1 : (!sameE e.ep c0.le) = true := h1
      rw [h1] at hX
      subst hX
      exact ⟨rfl, rfl⟩
    have h1 : (!sameE e.ep c0.le) = false := h1
    rw [h1] at hX
    refine ⟨carR c0 5, fun _ => rfl, rfl, ?_⟩
    conv => whnf
    cases hm : aget kK c0.cm e.lt with
    | none =>
      rw [hm] at hk hX
      refine ⟨heldK, .none, fun _ => ⟨dxK_good _, good_enc dxK_good c0.cm, hk⟩, ?_⟩
      conv => whnf
      refine bcase_intro (fun h2 => ?_) (fun h2 => ?_) <;> conv => whnf
      · have h2 : (bif (bif decide (y.2 > 0) then y.2 != IntKind.wrap .i64 (e.ca + 1) else false) then true else decide ((0 : Int) > 0)) = true := h2
        have hX : (bif (bif (bif decide (y.2 > 0) then y.2 != IntKind.wrap .i64 (e.ca + 1) else false) then true else decide ((0 : Int) > 0)) then _ else _) = X := hX
        rw [h2] at hX
        subst hX
        exact ⟨rfl, rfl⟩
      have h2 : (bif (bif decide (y.2 > 0) then y.2 != IntKind.wrap .i64 (e.ca + 1) else false) then true else decide ((0 : Int) > 0)) = false := h2
      have hX : (bif (bif (bif decide (y.2 > 0) then y.2 != IntKind.wrap .i64 (e.ca + 1) else false) then true else decide ((0 : Int) > 0)) then _ else _) = X := hX
      rw [h2] at hX
      refine ⟨heldA, encW (aput kW cl ((e.lt, e.ep), IntKind.wrap .i64 (e.ca + 1))), ⟨dxA_good (e.lt, e.ep), good_enc dxA_good cl, dput_enc (ev := whoW) dxA_inj hcl ((e.lt, e.ep), IntKind.wrap .i64 (e.ca + 1))⟩, ?_⟩
      conv => whnf
      refine ⟨carR c0 5, rfl, rfl, ?_⟩
      conv => whnf
      refine ⟨heldK, encK (aput kK c0.cm e.lt), ⟨dxK_good _, good_enc dxK_good c0.cm, dput_enc (ev := one1) dxK_inj hcm e.lt⟩, ?_⟩
      conv => whnf
      subst hX
      exact ⟨rfl, rfl⟩
    | some z =>
      rw [hm] at hk hX
      refine ⟨heldK, .some (.one (.int .i64 1)), fun _ => ⟨dxK_good _, good_enc dxK_good c0.cm, hk⟩, ?_⟩
      conv => whnf
      refine bcase_intro (fun h2 => ?_) (fun h2 => ?_) <;> conv => whnf
      · have h2 : (bif (bif decide (y.2 > 0) then y.2 != IntKind.wrap .i64 (e.ca + 1) else false) then true else decide ((1 : Int) > 0)) = true := h2
        have hX : (bif (bif (bif decide (y.2 > 0) then y.2 != IntKind.wrap .i64 (e.ca + 1) else false) then true else decide ((1 : Int) > 0)) then _ else _) = X := hX
        rw [h2] at hX
        subst hX
        exact ⟨rfl, rfl⟩
      exfalso
      have h2 : (bif (bif decide (y.2 > 0) then y.2 != IntKind.wrap .i64 (e.ca + 1) else false) then true else decide ((1 : Int) > 0)) = false := h2
      cases hb : (bif decide (y.2 > 0) then y.2 != IntKind.wrap .i64 (e.ca + 1) else false) <;> rw [hb] at h2 <;> cases h2
set_option maxHeartbeats 1000000 in
set_option maxRecDepth 100000 in
theorem clears52_1_0 {bs : Nat → Addr} (c0 : Cr) (e : Ev) (hcm : (c0.cm.map kK).Nodup) : Contract Tryd.prog (G0 bs) 52 [.el (.g 0) 9 0 0, evV e] [(0, .arow 9 [carR c0 1]), (1, .dmap (encK c0.cm))] (fun r t => match clearX c0 e with
    | .error g => r = .d (errD bs g) ∧ t = [(0, .arow 9 [carR c0 1]), (1, .dmap (encK c0.cm))]
    | .ok c' => r = .d (.raw .nilIface) ∧ t = [(0, .arow 9 [carR c' 1]), (1, .dmap (encK c'.cm))]) := by
  obtain ⟨X, hX⟩ : ∃ X, clearX c0 e = X := ⟨_, rfl⟩
  rw [hX]
  unfold clearX at hX
  have hk := dget_enc (ev := one1) dxK_inj hcm e.lt
  refine run52 2 [] rfl rfl ?_
  conv => whnf
  refine ⟨carR c0 1, rfl, rfl, ?_⟩
  conv => whnf
  refine bcase_intro (fun h1 => ?_) (fun h1 => ?_) <;> conv => whnf
  · have h1 : (!c0.op) = true := h1
    rw [h1] at hX
    subst hX
    exact ⟨rfl, rfl⟩
  have h1 : (!c0.op) = false := h1
  rw [h1] at hX
  refine ⟨carR c0 1, rfl, rfl, ?_⟩
  conv => whnf
  refine ⟨carR c0 1, fun _ => rfl, rfl, ?_⟩
  conv => whnf
  refine bcase_intro (fun h2 => ?_) (fun h2 => ?_) <;> conv => whnf
  · have h2 : (bif e.fl != c0.wh then true else e.lt.1 != c0.wh) = true := h2
    rw [h2] at hX
    subst hX
    exact ⟨rfl, rfl⟩
  have h2 : (bif e.fl != c0.wh then true else e.lt.1 != c0.wh) = false := h2
  rw [h2] at hX
  refine ⟨carR c0 1, rfl, rfl, ?_⟩
  conv => whnf
  refine bcase_intro (fun h3 => ?_) (fun h3 => ?_) <;> conv => whnf
  · have h3 : (e.lt.2.1 != c0.la) = true := h3
    rw [h3] at hX
    subst hX
    exact ⟨rfl, rfl⟩
  have h3 : (e.lt.2.1 != c0.la) = false := h3
  rw [h3] at hX
  refine ⟨carR c0 1, rfl, rfl, ?_⟩
  conv => whnf
  cases hm : aget kK c0.cm e.lt with
  | none =>
    rw [hm] at hk hX
    refine ⟨heldK, .none, ⟨dxK_good _, good_enc dxK_good c0.cm, hk⟩, ?_⟩
    conv => whnf
    subst hX
    exact ⟨rfl, rfl⟩
  | some z =>
    rw [hm] at hk hX
    refine ⟨heldK, .some (.one (.int .i64 1)), ⟨dxK_good _, good_enc dxK_good c0.cm, hk⟩, ?_⟩
    conv => whnf
    refine ⟨carR c0 1, rfl, rfl, ?_⟩
    conv => whnf
    refine ⟨heldK, encK (adel kK c0.cm e.lt), ⟨dxK_good _, good_enc dxK_good c0.cm, ddel_enc (ev := one1) dxK_inj hcm e.lt⟩, ?_⟩
    conv => whnf
    subst hX
    exact ⟨rfl, rfl⟩
set_option maxHeartbeats 1000000 in
set_option maxRecDepth 100000 in
theorem moves53_1_0 {bs : Nat → Addr} (q1 q2 q3 q4 : Int) (c0 : Cr) (fo : List Ep) (aw : List At) (cl : List (At × Int)) (e : Ev) : Contract Tryd.prog (G0 bs) 53 [.ref (.g 0) 0, .el (.g 1) 9 0 0, evV e] [(0, chk q1 q2 q3 q4 1), (1, .arow 9 [carR c0 5]), (2, .dmap (encE fo)), (3, .dmap (encA aw)), (4, .dmap (encW cl)), (5, .dmap (encK c0.cm))] (fun r t => match moveX q2 c0 e with
    | .error g => r = .d (errD bs g) ∧ t = [(0, chk q1 q2 q3 q4 1), (1, .arow 9 [carR c0 5]), (2, .dmap (encE fo)), (3, .dmap (encA aw)), (4, .dmap (encW cl)), (5, .dmap (encK c0.cm))]
    | .ok c' => r = .d (.raw .nilIface) ∧ t = [(0, chk q1 q2 q3 q4 1), (1, .arow 9 [carR c' 5]), (2, .dmap (encE fo)), (3, .dmap (encA aw)), (4, .dmap (encW cl)), (5, .dmap (encK c'.cm))]) := by
  obtain ⟨X, hX⟩ : ∃ X, moveX q2 c0 e = X := ⟨_, rfl⟩
  rw [hX]
  unfold moveX at hX
  refine run53 6 [13] rfl rfl ?_
  conv => whnf
  refine ⟨carR c0 5, rfl, rfl, ?_⟩
  conv => whnf
  have hne : (c0.op != (e.kd == 6)) = !(c0.op == (e.kd == 6)) := rfl
  rw [hne] at hX
  cases h1 : c0.op == (e.kd == 6) with
  | false =>
    conv => whnf
    rw [h1] at hX
    subst hX
    exact ⟨rfl, rfl⟩
  | true =>
  conv => whnf
  rw [h1] at hX
  refine ⟨carR c0 5, fun _ => rfl, rfl, ?_⟩
  conv => whnf
  refine bcase_intro (fun h2 => ?_) (fun h2 => ?_) <;> conv => whnf
  · refine bcase_intro (fun h3 => ?_) (fun h3 => ?_) <;> conv => whnf
    · have h2 : (bif e.kd == 6 then e.fl != c0.wh else false) = true := h2
      rw [h2] at hX
      subst hX
      exact ⟨rfl, rfl⟩
    · exact absurd (h2.symm.trans h3) (by decide)
  have h2 : (bif e.kd == 6 then e.fl != c0.wh else false) = false := h2
  rw [h2] at hX
  refine bcase_intro (fun h3 => ?_) (fun h3 => ?_) <;> conv => whnf
  · have h3 : (bif e.kd != 6 then (bif decide (e.fl < 0) then true else decide (e.fl ≥ q2)) else false) = true := h3
    rw [h3] at hX
    subst hX
    exact ⟨rfl, rfl⟩
  have h3 : (bif e.kd != 6 then (bif decide (e.fl < 0) then true else decide (e.fl ≥ q2)) else false) = false := h3
  rw [h3] at hX
  refine bcase_intro (fun h4 => ?_) (fun h4 => ?_) <;> conv => whnf
  · refine bcase_intro (fun h5 => ?_) (fun h5 => ?_) <;> conv => whnf
    · have h4 : (bif e.kd == 5 then (bif decide (e.di < -1) then true else decide (e.di > 1)) else false) = true := h4
      rw [h4] at hX
      subst hX
      exact ⟨rfl, rfl⟩
    · exact absurd (h4.symm.trans h5) (by decide)
  have h4 : (bif e.kd == 5 then (bif decide (e.di < -1) then true else decide (e.di > 1)) else false) = false := h4
  rw [h4] at hX
  refine bcase_intro (fun h5 => ?_) (fun h5 => ?_) <;> conv => whnf
  · have h5 : (bif (bif e.kd == 7 then e.di != 1 else false) then e.di != -1 else false) = true := h5
    rw [h5] at hX
    subst hX
    exact ⟨rfl, rfl⟩
  have h5 : (bif (bif e.kd == 7 then e.di != 1 else false) then e.di != -1 else false) = false := h5
  rw [h5] at hX
  cases h6 : e.kd == 5 with
  | true =>
    rw [h6] at hX
    refine ⟨carR c0 5, rfl, ?_⟩
    conv => whnf
    refine ⟨_, rfl, ?_⟩
    conv => whnf
    refine ⟨_, rfl, rfl, ?_⟩
    conv => whnf
    refine StopG.draw wk53 [] sp53_13 [6] (fun env s => env = [(6, .d (.raw .nilIface))] ∧ s = [(0, chk q1 q2 q3 q4 1), (1, .arow 9 [carR { c0 with op := true, fl := e.fl, wh := e.fl, la := e.di } 5]), (2, .dmap (encE fo)), (3, .dmap (encA aw)), (4, .dmap (encW cl)), (5, .dmap (encK c0.cm))]) rfl rfl (by kernel_rfl) ?_ ?_
    · conv => whnf
      repeat' (first
        | (refine Both.mk ?_ ?_ <;> conv => whnf)
        | (refine ⟨_, rfl, ?_⟩; conv => whnf)
        | exact ⟨rfl, rfl⟩)
    rintro env s ⟨rfl, rfl⟩
    conv => whnf
    subst hX
    exact ⟨rfl, rfl⟩
  | false =>
    rw [h6] at hX
    refine ⟨carR c0 5, rfl, ?_⟩
    conv => whnf
    refine ⟨_, rfl, ?_⟩
    conv => whnf
    refine ⟨_, rfl, rfl, ?_⟩
    conv => whnf
    subst hX
    exact ⟨rfl, rfl⟩
set_option maxHeartbeats 2000000 in
set_option maxRecDepth 100000 in
theorem event32_1_0 {bs : Nat → Addr} (q1 q2 q3 q4 : Int) (c0 : Cr) (fo : List Ep) (aw : List At) (cl : List (At × Int)) (e : Ev) (hkd : ¬ (e.kd < 1 ∨ e.kd > 11)) (hca : e.ca = 0) (hfo : (fo.map kE).Nodup) (haw : (aw.map kA).Nodup) (hcl : (cl.map kW).Nodup) (hcm : (c0.cm.map kK).Nodup) : Contract Tryd.prog (G0 bs) 32 [.ref (.g 0) 0, evV e] [(0, chk q1 q2 q3 q4 1), (1, .arow 9 [carR c0 5]), (2, .dmap (encE fo)), (3, .dmap (encA aw)), (4, .dmap (encW cl)), (5, .dmap (encK c0.cm))] (fun r t => match carX q2 ⟨[c0], fo, aw, cl⟩ 0 c0 e with
    | .error g => r = .d (errD bs g) ∧ t = [(0, chk q1 q2 q3 q4 1), (1, .arow 9 [carR c0 5]), (2, .dmap (encE fo)), (3, .dmap (encA aw)), (4, .dmap (encW cl)), (5, .dmap (encK c0.cm))]
    | .ok k' => r = .d (.raw .nilIface) ∧ ∃ d0 : Cr, k'.cars = [d0] ∧ (t = [(0, chk q1 q2 q3 q4 1), (1, .arow 9 [carR d0 5]), (2, .dmap (encE k'.fo)), (3, .dmap (encA k'.aw)), (4, .dmap (encW k'.cl)), (5, .dmap (encK d0.cm))] ∨ (d0.cm = [] ∧ t = [(0, chk q1 q2 q3 q4 1), (1, .arow 9 [carR d0 6]), (2, .dmap (encE k'.fo)), (3, .dmap (encA k'.aw)), (4, .dmap (encW k'.cl)), (5, .dmap (encK c0.cm)), (6, .dmap (encK []))]))) := by
  obtain ⟨kd, ca, lt, ep, fl, di⟩ := e
  have hca : ca = 0 := hca
  subst hca
  obtain ⟨X, hX⟩ : ∃ X, carX q2 ⟨[c0], fo, aw, cl⟩ 0 c0 ⟨kd, 0, lt, ep, fl, di⟩ = X := ⟨_, rfl⟩
  rw [hX]
  unfold carX at hX
  dsimp only at hX hkd
  have hg := dget_enc (ev := one1) dxA_inj haw (lt, ep)
  refine run32 6 [] rfl rfl ?_
  conv => whnf
  refine bcase_intro (fun h => ?_) (fun h => ?_) <;> conv => whnf
  · exfalso
    have h : (bif decide (kd < 1) then true else decide (kd > 11)) = true := h
    rw [decide_eq_false (show ¬ kd < 1 by omega), decide_eq_false (show ¬ kd > 11 by omega)] at h
    cases h
  refine ⟨⟨(by show (0 : Int) ≤ 0; decide), (by show (0 : Int) < 1; decide)⟩, ?_⟩
  conv => whnf
  refine bcase_intro (fun h9 => ?_) (fun h9 => ?_) <;> conv => whnf
  · have h9 : (kd == 9) = true := h9
    rw [h9] at hX
    refine ⟨carR c0 5, rfl, rfl, ?_⟩
    conv => whnf
    cases hop : c0.op with
    | true =>
      conv => whnf
      rw [hop] at hX
      subst hX
      exact ⟨rfl, rfl⟩
    | false =>
      conv => whnf
      refine ⟨_, rfl, ?_⟩
      conv => whnf
      refine ⟨_, rfl, ?_⟩
      conv => whnf
      refine ⟨_, rfl, ?_⟩
      conv => whnf
      rw [hop] at hX
      subst hX
      exact ⟨rfl, _, rfl, .inr ⟨rfl, by rw [hop]; rfl⟩⟩
  have h9 : (kd == 9) = false := h9
  rw [h9] at hX
  cases h3 : kd == 3 with
  | true =>
    conv => whnf
    rw [h3] at hX
    refine .obj rfl ?_
    conv => whnf
    refine ⟨_, _, ⟨WkL.refl _, ring50_1_0 q1 q2 q3 q4 c0 fo aw cl ⟨kd, 0, lt, ep, fl, di⟩ hfo⟩, fun res s1 h => ?_⟩
    cases hR : ringX c0 fo ⟨kd, 0, lt, ep, fl, di⟩ with
    | error g =>
      rw [hR] at h hX
      obtain ⟨rfl, rfl⟩ := h
      conv => whnf
      subst hX
      exact ⟨rfl, rfl⟩
    | ok y =>
      rw [hR] at h hX
      obtain ⟨c9, f9⟩ := y
      obtain ⟨rfl, rfl⟩ := h
      conv => whnf
      subst hX
      exact ⟨rfl, _, rfl, .inr ⟨ringX_cm hR, rfl⟩⟩
  | false =>
  conv => whnf
  rw [h3] at hX
  cases h4 : kd == 4 with
  | true =>
    conv => whnf
    rw [h4] at hX
    refine .obj rfl ?_
    conv => whnf
    refine ⟨_, _, ⟨WkL.refl _, ring50_1_0 q1 q2 q3 q4 c0 fo aw cl ⟨kd, 0, lt, ep, fl, di⟩ hfo⟩, fun res s1 h => ?_⟩
    cases hR : ringX c0 fo ⟨kd, 0, lt, ep, fl, di⟩ with
    | error g =>
      rw [hR] at h hX
      obtain ⟨rfl, rfl⟩ := h
      conv => whnf
      subst hX
      exact ⟨rfl, rfl⟩
    | ok y =>
      rw [hR] at h hX
      obtain ⟨c9, f9⟩ := y
      obtain ⟨rfl, rfl⟩ := h
      conv => whnf
      subst hX
      exact ⟨rfl, _, rfl, .inr ⟨ringX_cm hR, rfl⟩⟩
  | false =>
  conv => whnf
  rw [h4] at hX
  refine bcase_intro (fun h2 => ?_) (fun h2 => ?_) <;> conv => whnf
  · have h2 : (kd == 2) = true := h2
    rw [h2] at hX
    cases hf : aget kA aw (lt, ep) with
    | none =>
      rw [hf] at hg hX
      refine ⟨heldA, .none, ⟨dxA_good (lt, ep), good_enc dxA_good aw, hg⟩, ?_⟩
      conv => whnf
      refine ⟨heldA, encA (aput kA aw (lt, ep)), ⟨dxA_good (lt, ep), good_enc dxA_good aw, dput_enc (ev := one1) dxA_inj haw (lt, ep)⟩, ?_⟩
      conv => whnf
      subst hX
      exact ⟨rfl, _, rfl, .inl rfl⟩
    | some y =>
      rw [hf] at hg hX
      refine ⟨heldA, .some (.one (.int .i64 1)), ⟨dxA_good (lt, ep), good_enc dxA_good aw, hg⟩, ?_⟩
      conv => whnf
      subst hX
      exact ⟨rfl, rfl⟩
  have h2 : (kd == 2) = false := h2
  rw [h2] at hX
  refine bcase_intro (fun h1 => ?_) (fun h1 => ?_) <;> conv => whnf
  · have h1 : (kd == 1) = true := h1
    rw [h1] at hX
    refine .obj rfl ?_
    conv => whnf
    refine ⟨_, _, ⟨WkL.refl _, claim51_1_0 q1 q2 q3 q4 c0 fo aw cl ⟨kd, 0, lt, ep, fl, di⟩ hcl (hcm)⟩, fun res s1 h => ?_⟩
    cases hR : claimX c0 cl ⟨kd, 0, lt, ep, fl, di⟩ with
    | error g =>
      rw [hR] at h hX
      obtain ⟨rfl, rfl⟩ := h
      conv => whnf
      subst hX
      exact ⟨rfl, rfl⟩
    | ok y =>
      rw [hR] at h hX
      obtain ⟨c9, f9⟩ := y
      obtain ⟨rfl, rfl⟩ := h
      conv => whnf
      subst hX
      exact ⟨rfl, _, rfl, .inl rfl⟩
  have h1 : (kd == 1) = false := h1
  rw [h1] at hX
  refine bcase_intro (fun h8 => ?_) (fun h8 => ?_) <;> conv => whnf
  · have h8 : (kd == 8) = true := h8
    rw [h8] at hX
    refine .obj rfl ?_
    conv => whnf
    refine ⟨_, _, ⟨WkL.refl _, clears52_1_0 c0 ⟨kd, 0, lt, ep, fl, di⟩ hcm⟩, fun res s1 h => ?_⟩
    cases hR : clearX c0 ⟨kd, 0, lt, ep, fl, di⟩ with
    | error g =>
      rw [hR] at h hX
      obtain ⟨rfl, rfl⟩ := h
      conv => whnf
      subst hX
      exact ⟨rfl, rfl⟩
    | ok y =>
      rw [hR] at h hX
      obtain c9 := y
      obtain ⟨rfl, rfl⟩ := h
      conv => whnf
      subst hX
      exact ⟨rfl, _, rfl, .inl rfl⟩
  have h8 : (kd == 8) = false := h8
  rw [h8] at hX
  refine bcase_intro (fun h10 => ?_) (fun h10 => ?_) <;> conv => whnf
  · have h10 : (kd == 10) = true := h10
    rw [h10] at hX
    refine ⟨_, rfl, ?_⟩
    conv => whnf
    subst hX
    exact ⟨rfl, _, rfl, .inr ⟨rfl, rfl⟩⟩
  have h10 : (kd == 10) = false := h10
  rw [h10] at hX
  cases h5 : kd == 5 with
  | true =>
    conv => whnf
    rw [h5] at hX
    refine .obj rfl ?_
    conv => whnf
    refine ⟨_, _, ⟨WkL.refl _, moves53_1_0 q1 q2 q3 q4 c0 fo aw cl ⟨kd, 0, lt, ep, fl, di⟩⟩, fun res s1 h => ?_⟩
    cases hR : moveX q2 c0 ⟨kd, 0, lt, ep, fl, di⟩ with
    | error g =>
      rw [hR] at h hX
      obtain ⟨rfl, rfl⟩ := h
      conv => whnf
      subst hX
      exact ⟨rfl, rfl⟩
    | ok y =>
      rw [hR] at h hX
      obtain c9 := y
      obtain ⟨rfl, rfl⟩ := h
      conv => whnf
      subst hX
      exact ⟨rfl, _, rfl, .inl rfl⟩
  | false =>
  conv => whnf
  rw [h5] at hX
  cases h6 : kd == 6 with
  | true =>
    conv => whnf
    rw [h6] at hX
    refine .obj rfl ?_
    conv => whnf
    refine ⟨_, _, ⟨WkL.refl _, moves53_1_0 q1 q2 q3 q4 c0 fo aw cl ⟨kd, 0, lt, ep, fl, di⟩⟩, fun res s1 h => ?_⟩
    cases hR : moveX q2 c0 ⟨kd, 0, lt, ep, fl, di⟩ with
    | error g =>
      rw [hR] at h hX
      obtain ⟨rfl, rfl⟩ := h
      conv => whnf
      subst hX
      exact ⟨rfl, rfl⟩
    | ok y =>
      rw [hR] at h hX
      obtain c9 := y
      obtain ⟨rfl, rfl⟩ := h
      conv => whnf
      subst hX
      exact ⟨rfl, _, rfl, .inl rfl⟩
  | false =>
  conv => whnf
  rw [h6] at hX
  refine bcase_intro (fun h7 => ?_) (fun h7 => ?_) <;> conv => whnf
  · have h7 : (kd == 7) = true := h7
    rw [h7] at hX
    refine .obj rfl ?_
    conv => whnf
    refine ⟨_, _, ⟨WkL.refl _, moves53_1_0 q1 q2 q3 q4 c0 fo aw cl ⟨kd, 0, lt, ep, fl, di⟩⟩, fun res s1 h => ?_⟩
    cases hR : moveX q2 c0 ⟨kd, 0, lt, ep, fl, di⟩ with
    | error g =>
      rw [hR] at h hX
      obtain ⟨rfl, rfl⟩ := h
      conv => whnf
      subst hX
      exact ⟨rfl, rfl⟩
    | ok y =>
      rw [hR] at h hX
      obtain c9 := y
      obtain ⟨rfl, rfl⟩ := h
      conv => whnf
      subst hX
      exact ⟨rfl, _, rfl, .inl rfl⟩
  have h7 : (kd == 7) = false := h7
  rw [h7] at hX
  subst hX
  exact ⟨rfl, _, rfl, .inl rfl⟩
end Go.Proofs.YtpfmnccocmgfmaaDoor
/- Seat D: all that is done: plain laws. -/
namespace Go.Proofs.YtpfmnccocmgfmaaDoor
open Go.Pv
def zC : Cr := ⟨false, false, false, 0, 0, 0, (0, 0), []⟩
theorem nds_set {k : Ck} (hk : Nds k) (i : Nat) (d : Cr) (hd : (d.cm.map kK).Nodup) : ∀ c ∈ k.cars.set i d, (c.cm.map kK).Nodup := fun c hc => by
  rcases List.mem_or_eq_of_mem_set hc with h | h
  · exact hk.cm c h
  · rw [h]; exact hd
theorem ringX_nds {c c' : Cr} {fo fo' : List Ep} {e : Ev} (hfo : (fo.map kE).Nodup) (h : ringX c fo e = .ok (c', fo')) : (fo'.map kE).Nodup := by
  unfold ringX at h
  cases h1 : (bif !lessE c.le e.ep then true else bif c.an then decide (e.ep.1 ≤ c.le.1) else false) <;> rw [h1] at h
  · cases h2 : (bif e.kd == 3 then decide (isIn (aget kE fo e.ep) > 0) else false) <;> rw [h2] at h
    · have h : (Except.ok _ : Except Nat (Cr × List Ep)) = .ok (c', fo') := h
      injection h with h
      injection h with ha hb
      rw [← hb]
      show ((bif e.kd == 3 then aput kE fo e.ep else fo).map kE).Nodup
      cases e.kd == 3
      · exact hfo
      · exact aput_nodup hfo e.ep
    · cases h
  · cases h
theorem claimX_nds {c c' : Cr} {cl cl' : List (At × Int)} {e : Ev} (hcl : (cl.map kW).Nodup) (hcm : (c.cm.map kK).Nodup) (h : claimX c cl e = .ok (c', cl')) : (cl'.map kW).Nodup ∧ (c'.cm.map kK).Nodup := by
  unfold claimX at h
  cases h1 : (!sameE e.ep c.le) <;> rw [h1] at h
  · cases h2 : (bif (bif decide (whoOf (aget kW cl (e.lt, e.ep)) > 0) then whoOf (aget kW cl (e.lt, e.ep)) != IntKind.wrap .i64 (e.ca + 1) else false) then true else decide (isIn (aget kK c.cm e.lt) > 0)) <;> rw [h2] at h
    · have h : (Except.ok _ : Except Nat (Cr × List (At × Int))) = .ok (c', cl') := h
      injection h with h
      injection h with ha hb
      rw [← hb, ← ha]
      exact ⟨aput_nodup hcl _, aput_nodup hcm _⟩
    · cases h
  · cases h
theorem clearX_nds {c c' : Cr} {e : Ev} (hcm : (c.cm.map kK).Nodup) (h : clearX c e = .ok c') : (c'.cm.map kK).Nodup := by
  unfold clearX at h
  cases h1 : (!c.op) <;> rw [h1] at h
  · cases h2 : (bif e.fl != c.wh then true else e.lt.1 != c.wh) <;> rw [h2] at h
    · cases h3 : (e.lt.2.1 != c.la) <;> rw [h3] at h
      · cases h4 : (isIn (aget kK c.cm e.lt) == 0) <;> rw [h4] at h
        · have h : (Except.ok _ : Except Nat Cr) = .ok c' := h
          injection h with h
          rw [← h]
          exact adel_nodup hcm _
        · cases h
      · cases h
    · cases h
  · cases h
theorem moveX_nds {f : Int} {c c' : Cr} {e : Ev} (hcm : (c.cm.map kK).Nodup) (h : moveX f c e = .ok c') : (c'.cm.map kK).Nodup := by
  unfold moveX at h
  cases h1 : (c.op != (e.kd == 6)) <;> rw [h1] at h
  · cases h2 : (bif (bif e.kd == 6 then e.fl != c.wh else false) then true else bif e.kd != 6 then (bif decide (e.fl < 0) then true else decide (e.fl ≥ f)) else false) <;> rw [h2] at h
    · cases h3 : (bif (bif e.kd == 5 then (bif decide (e.di < -1) then true else decide (e.di > 1)) else false) then true else bif (bif e.kd == 7 then e.di != 1 else false) then e.di != -1 else false) <;> rw [h3] at h
      · have h : (Except.ok _ : Except Nat Cr) = .ok c' := h
        injection h with h
        rw [← h]
        cases e.kd == 5 <;> exact hcm
      · cases h
    · cases h
  · cases h
theorem carX_nds {f : Int} {k k' : Ck} {i : Nat} {c : Cr} {e : Ev} (hk : Nds k) (hc : c ∈ k.cars) (h : carX f k i c e = .ok k') : Nds k' := by
  have hcm := hk.cm c hc
  unfold carX at h
  cases h9 : (e.kd == 9) <;> rw [h9] at h
  · cases h3 : (bif e.kd == 3 then true else e.kd == 4) <;> rw [h3] at h
    · cases h2 : (e.kd == 2) <;> rw [h2] at h
      · cases h1 : (e.kd == 1) <;> rw [h1] at h
        · cases h8 : (e.kd == 8) <;> rw [h8] at h
          · cases h10 : (e.kd == 10) <;> rw [h10] at h
            · cases h5 : (bif (bif e.kd == 5 then true else e.kd == 6) then true else e.kd == 7) <;> rw [h5] at h
              · have h : (Except.ok k : Except Nat Ck) = .ok k' := h
                injection h with h
                exact h ▸ hk
              · simp only [cond_true, cond_false] at h
                cases hR : moveX f c e with
                | error g => rw [hR] at h; cases h
                | ok d =>
                  rw [hR] at h
                  injection h with h
                  rw [← h]
                  exact ⟨hk.fo, hk.aw, hk.cl, nds_set hk i d (moveX_nds hcm hR)⟩
            · have h : (Except.ok _ : Except Nat Ck) = .ok k' := h
              injection h with h
              rw [← h]
              exact ⟨hk.fo, hk.aw, hk.cl, nds_set hk i _ .nil⟩
          · simp only [cond_true, cond_false] at h
            cases hR : clearX c e with
            | error g => rw [hR] at h; cases h
            | ok d =>
              rw [hR] at h
              injection h with h
              rw [← h]
              exact ⟨hk.fo, hk.aw, hk.cl, nds_set hk i d (clearX_nds hcm hR)⟩
        · simp only [cond_true, cond_false] at h
          cases hR : claimX c k.cl e with
          | error g => rw [hR] at h; cases h
          | ok d =>
            obtain ⟨d, cl'⟩ := d
            rw [hR] at h
            injection h with h
            rw [← h]
            have := claimX_nds hk.cl hcm hR
            exact ⟨hk.fo, hk.aw, this.1, nds_set hk i d this.2⟩
      · simp only [cond_true, cond_false] at h
        cases h7 : decide (isIn (aget kA k.aw (e.lt, e.ep)) > 0) <;> rw [h7] at h
        · have h : (Except.ok _ : Except Nat Ck) = .ok k' := h
          injection h with h
          rw [← h]
          exact ⟨hk.fo, aput_nodup hk.aw _, hk.cl, hk.cm⟩
        · cases h
    · simp only [cond_true, cond_false] at h
      cases hR : ringX c k.fo e with
      | error g => rw [hR] at h; cases h
      | ok d =>
        obtain ⟨d, fo'⟩ := d
        rw [hR] at h
        injection h with h
        rw [← h]
        exact ⟨ringX_nds hk.fo hR, hk.aw, hk.cl, nds_set hk i d (by rw [ringX_cm hR]; exact .nil)⟩
  · simp only [cond_true] at h
    cases hop : c.op <;> rw [hop] at h
    · have h : (Except.ok _ : Except Nat Ck) = .ok k' := h
      injection h with h
      rw [← h]
      exact ⟨hk.fo, hk.aw, hk.cl, nds_set hk i _ .nil⟩
    · cases h
/-- Each error is one of the program's. -/
theorem g13 {α : Type} {b : Bool} {g n : Nat} {x : Except Nat α} (hn : n < 13) (hx : x = .error g → g < 13) (h : (bif b then .error n else x) = .error g) : g < 13 := by
  cases b with
  | true => have h : (Except.error n : Except Nat α) = .error g := h; injection h with h; omega
  | false => exact hx h
theorem ringX_13 {c : Cr} {fo : List Ep} {e : Ev} {g : Nat} (h : ringX c fo e = .error g) : g < 13 :=
  g13 (by omega) (g13 (by omega) (fun h => by cases h)) h
theorem claimX_13 {c : Cr} {cl : List (At × Int)} {e : Ev} {g : Nat} (h : claimX c cl e = .error g) : g < 13 :=
  g13 (by omega) (g13 (by omega) (fun h => by cases h)) h
theorem clearX_13 {c : Cr} {e : Ev} {g : Nat} (h : clearX c e = .error g) : g < 13 :=
  g13 (by omega) (g13 (by omega) (g13 (by omega) (g13 (by omega) (fun h => by cases h)))) h
theorem moveX_13 {f : Int} {c : Cr} {e : Ev} {g : Nat} (h : moveX f c e = .error g) : g < 13 :=
  g13 (by omega) (g13 (by omega) (g13 (by omega) (fun h => by cases h))) h
theorem carX_13 {f : Int} {k : Ck} {i : Nat} {c : Cr} {e : Ev} {g : Nat} (h : carX f k i c e = .error g) : g < 13 := by
  unfold carX at h
  cases h9 : (e.kd == 9) <;> rw [h9] at h
  · cases h3 : (bif e.kd == 3 then true else e.kd == 4) <;> rw [h3] at h
    · cases h2 : (e.kd == 2) <;> rw [h2] at h
      · cases h1 : (e.kd == 1) <;> rw [h1] at h
        · cases h8 : (e.kd == 8) <;> rw [h8] at h
          · cases h10 : (e.kd == 10) <;> rw [h10] at h
            · cases h5 : (bif (bif e.kd == 5 then true else e.kd == 6) then true else e.kd == 7) <;> rw [h5] at h
              · cases h
              · simp only [cond_true, cond_false] at h
                cases hR : moveX f c e with
                | error g => rw [hR] at h; injection h with h; exact h ▸ moveX_13 hR
                | ok d => rw [hR] at h; cases h
            · cases h
          · simp only [cond_true, cond_false] at h
            cases hR : clearX c e with
            | error g => rw [hR] at h; injection h with h; exact h ▸ clearX_13 hR
            | ok d => rw [hR] at h; cases h
        · simp only [cond_true, cond_false] at h
          cases hR : claimX c k.cl e with
          | error g => rw [hR] at h; injection h with h; exact h ▸ claimX_13 hR
          | ok d => rw [hR] at h; cases h
      · exact g13 (by omega) (fun h => by cases h) h
    · simp only [cond_true, cond_false] at h
      cases hR : ringX c k.fo e with
      | error g => rw [hR] at h; injection h with h; exact h ▸ ringX_13 hR
      | ok d => rw [hR] at h; cases h
  · exact g13 (by omega) (fun h => by cases h) h
def errOf : Except (Nat × Nat) Ck → Option (Int × Nat)
  | .error (i, g) => some ((i : Int), g)
  | .ok _ => none
theorem eventX_13 {f : Int} {k : Ck} {e : Ev} {g : Nat} (h : eventX f k e = .error g) : g < 13 := by
  unfold eventX at h
  split at h
  · cases h; omega
  · split at h
    · cases h; omega
    · split at h
      · exact carX_13 h
      · cases h; omega
theorem allX_13 {f : Int} : ∀ {l : List Ev} {k : Ck} {i : Nat} {p : Nat × Nat}, allX f k l i = .error p → p.2 < 13
  | [], _, _, _, h => by cases h
  | e :: r, k, i, p, h => by
    unfold allX at h
    split at h
    · rename_i g hg
      cases h
      exact eventX_13 hg
    · exact allX_13 h
theorem errOf_13 {f : Int} {l : List Ev} {k : Ck} {i : Nat} : ∀ p g, errOf (allX f k l i) = some (p, g) → g < 13 := fun p g h => by
  cases hA : allX f k l i with
  | ok k' => rw [hA] at h; cases h
  | error q =>
    obtain ⟨j, g'⟩ := q
    rw [hA] at h
    cases h
    exact allX_13 hA
def rowV (e : Ev) : List DV := [.int .i64 e.kd, .int .i64 e.ca, .int .i64 e.lt.1, .int .i64 e.lt.2.1, .int .i64 e.lt.2.2, .int .i64 e.ep.1, .int .i64 e.ep.2, .int .i64 e.fl, .int .i64 e.di]
def rowsV (l : List Ev) : List (List DV) := l.map rowV
theorem rowsV_len (l : List Ev) : (rowsV l).length = l.length := by simp [rowsV]
end Go.Proofs.YtpfmnccocmgfmaaDoor
/- Seat D: all that is done, looked through, of 1 car: printed by mk_s4e.py. -/
namespace Go.Proofs.YtpfmnccocmgfmaaDoor
open Go.Pv Go.RowKit
set_option maxHeartbeats 1000000 in
set_option maxRecDepth 100000 in
theorem eventK_1 {bs : Nat → Addr} (q1 q2 q3 q4 : Int) (c0 : Cr) (fo : List Ep) (aw : List At) (cl : List (At × Int)) (e : Ev) (hkd : e.kd < 1 ∨ e.kd > 11) : Contract Tryd.prog (G0 bs) 32 [.ref (.g 0) 0, evV e] [(0, chk q1 q2 q3 q4 1), (1, .arow 9 [carR c0 5]), (2, .dmap (encE fo)), (3, .dmap (encA aw)), (4, .dmap (encW cl)), (5, .dmap (encK c0.cm))] (fun r t => r = .d (errD bs 1) ∧ t = [(0, chk q1 q2 q3 q4 1), (1, .arow 9 [carR c0 5]), (2, .dmap (encE fo)), (3, .dmap (encA aw)), (4, .dmap (encW cl)), (5, .dmap (encK c0.cm))]) := by
  refine run32 6 [] rfl rfl ?_
  conv => whnf
  refine bcase_intro (fun h => ?_) (fun h => ?_) <;> conv => whnf
  · exact ⟨rfl, rfl⟩
  · exfalso
    have h : (bif decide (e.kd < 1) then true else decide (e.kd > 11)) = false := h
    rcases hkd with hk | hk
    · rw [decide_eq_true hk] at h; cases h
    · rw [decide_eq_true hk] at h
      cases h1 : decide (e.kd < 1) <;> rw [h1] at h <;> cases h
set_option maxHeartbeats 1000000 in
set_option maxRecDepth 100000 in
theorem eventR_1 {bs : Nat → Addr} (q1 q2 q3 q4 : Int) (c0 : Cr) (fo : List Ep) (aw : List At) (cl : List (At × Int)) (e : Ev) (hkd : ¬ (e.kd < 1 ∨ e.kd > 11)) (hca : e.ca < 0 ∨ e.ca ≥ 1) : Contract Tryd.prog (G0 bs) 32 [.ref (.g 0) 0, evV e] [(0, chk q1 q2 q3 q4 1), (1, .arow 9 [carR c0 5]), (2, .dmap (encE fo)), (3, .dmap (encA aw)), (4, .dmap (encW cl)), (5, .dmap (encK c0.cm))] (fun r t => r = .d (errD bs 0) ∧ t = [(0, chk q1 q2 q3 q4 1), (1, .arow 9 [carR c0 5]), (2, .dmap (encE fo)), (3, .dmap (encA aw)), (4, .dmap (encW cl)), (5, .dmap (encK c0.cm))]) := by
  refine run32 6 [] rfl rfl ?_
  conv => whnf
  refine bcase_intro (fun h => ?_) (fun h => ?_) <;> conv => whnf
  · exfalso
    have h : (bif decide (e.kd < 1) then true else decide (e.kd > 11)) = true := h
    rw [decide_eq_false (show ¬ e.kd < 1 by omega), decide_eq_false (show ¬ e.kd > 11 by omega)] at h
    cases h
  refine bcase_intro (fun h => ?_) (fun h => ?_) <;> conv => whnf
  · exact ⟨rfl, rfl⟩
  · exfalso
    have h : (bif decide (e.ca < 0) then true else decide (e.ca ≥ 1)) = false := h
    rcases hca with hk | hk
    · rw [decide_eq_true hk] at h; cases h
    · rw [decide_eq_true hk] at h
      cases h1 : decide (e.ca < 0) <;> rw [h1] at h <;> cases h
set_option maxHeartbeats 1000000 in
set_option maxRecDepth 100000 in
theorem start31_1 {bs : Nat → Addr} (q2 q3 q4 : Int) : Contract Tryd.prog (G0 bs) 31 [.agg [iV 1, iV q2, iV q3, iV q4]] [] (fun r t => r = .ref (.g 0) 0 ∧ t = [(0, chk 1 q2 q3 q4 1), (1, .arow 9 [carR zC 5]), (2, .dmap (encE [])), (3, .dmap (encA [])), (4, .dmap (encW [])), (5, .dmap (encK zC.cm))]) := by
  refine run31 0 [] rfl rfl ?_
  conv => whnf
  refine ⟨1, 1, ⟨rfl, rfl, Nat.le_refl _, by decide, by decide⟩, ?_⟩
  conv => whnf
  refine StopG.rounds wk31 [] [3, 19, 20] (fun m env s => (m = 1 ∧ env = [(3, .ref (.g 0) 0), (19, iV 1), (20, iV 0)] ∧ s = [(0, chk 1 q2 q3 q4 1), (1, .row 9 [[.bool false, .bool false, .bool false, .int .i64 0, .int .i64 0, .int .i64 0, .int .i64 0, .int .i64 0, .raw (.map .none)]]), (2, .dmap []), (3, .dmap []), (4, .dmap [])]) ∨ (m = 0 ∧ env = [(3, .ref (.g 0) 0), (19, iV 1), (20, iV 1)] ∧ s = [(0, chk 1 q2 q3 q4 1), (1, .arow 9 [carR zC 5]), (2, .dmap []), (3, .dmap []), (4, .dmap []), (5, .dmap [])])) rfl ?_ ?_
  · conv => whnf
    exact ⟨_, .inl ⟨rfl, rfl, rfl⟩⟩
  rintro m env s (⟨rfl, rfl, rfl⟩ | ⟨rfl, rfl, rfl⟩)
  · conv => whnf
    refine ⟨⟨by decide, by decide⟩, ?_⟩
    conv => whnf
    refine ⟨_, rfl, ?_⟩
    conv => whnf
    exact ⟨_, (by decide : 0 < 1), .inr (⟨rfl, rfl, rfl⟩)⟩
  · conv => whnf
    exact ⟨rfl, rfl⟩
set_option maxHeartbeats 1000000 in
theorem event_1 {bs : Nat → Addr} (q1 q2 q3 q4 : Int) (c0 : Cr) (fo : List Ep) (aw : List At) (cl : List (At × Int)) (e : Ev) (hnd : Nds ⟨[c0], fo, aw, cl⟩) : Contract Tryd.prog (G0 bs) 32 [.ref (.g 0) 0, evV e] [(0, chk q1 q2 q3 q4 1), (1, .arow 9 [carR c0 5]), (2, .dmap (encE fo)), (3, .dmap (encA aw)), (4, .dmap (encW cl)), (5, .dmap (encK c0.cm))] (fun r t => match eventX q2 ⟨[c0], fo, aw, cl⟩ e with
    | .error g => r = .d (errD bs g) ∧ t = [(0, chk q1 q2 q3 q4 1), (1, .arow 9 [carR c0 5]), (2, .dmap (encE fo)), (3, .dmap (encA aw)), (4, .dmap (encW cl)), (5, .dmap (encK c0.cm))]
    | .ok k' => r = .d (.raw .nilIface) ∧ ∃ d0 : Cr, k'.cars = [d0] ∧ Nds k' ∧ (t = [(0, chk q1 q2 q3 q4 1), (1, .arow 9 [carR d0 5]), (2, .dmap (encE k'.fo)), (3, .dmap (encA k'.aw)), (4, .dmap (encW k'.cl)), (5, .dmap (encK d0.cm))] ∨ (d0.cm = [] ∧ t = [(0, chk q1 q2 q3 q4 1), (1, .arow 9 [carR d0 6]), (2, .dmap (encE k'.fo)), (3, .dmap (encA k'.aw)), (4, .dmap (encW k'.cl)), (5, .dmap (encK c0.cm)), (6, .dmap (encK []))]))) := by
  by_cases hkd : e.kd < 1 ∨ e.kd > 11
  · have he : eventX q2 ⟨[c0], fo, aw, cl⟩ e = .error 1 := by unfold eventX; rw [if_pos hkd]
    rw [he]
    exact eventK_1 q1 q2 q3 q4 c0 fo aw cl e hkd
  by_cases hca : e.ca < 0 ∨ e.ca ≥ 1
  · have he : eventX q2 ⟨[c0], fo, aw, cl⟩ e = .error 0 := by unfold eventX; rw [if_neg hkd]; exact if_pos hca
    rw [he]
    exact eventR_1 q1 q2 q3 q4 c0 fo aw cl e hkd hca
  have hcs : e.ca = 0 := by omega
  have h0 := hcs
  · refine (event32_1_0 q1 q2 q3 q4 c0 fo aw cl e hkd h0 hnd.fo hnd.aw hnd.cl (hnd.cm c0 (by simp))).mono fun r t h => ?_
    have he : eventX q2 ⟨[c0], fo, aw, cl⟩ e = carX q2 ⟨[c0], fo, aw, cl⟩ 0 c0 e := by
      unfold eventX
      rw [if_neg hkd, h0]
      rfl
    rw [he]
    cases hX : carX q2 ⟨[c0], fo, aw, cl⟩ 0 c0 e with
    | error g => rw [hX] at h; exact h
    | ok k' =>
      rw [hX] at h
      obtain ⟨h1, d0, h2, h3⟩ := h
      refine ⟨h1, d0, h2, carX_nds hnd (by simp) hX, ?_⟩
      rcases h3 with h3 | ⟨e1, e2⟩
      · exact .inl h3
      · exact .inr (⟨e1, e2⟩)
set_option maxHeartbeats 4000000 in
set_option maxRecDepth 100000 in
theorem all24_1 {bs : Nat → Addr} (q2 q3 q4 : Int) (l : List Ev) (hl : l.length ≤ 100000) : Contract Tryd.prog (G0 bs) 24 [.agg [iV 1, iV q2, iV q3, iV q4], .d (.list 9 (rowsV l))] [] (fun r t => match allX q2 ⟨[zC], [], [], []⟩ l 0 with
    | .error (i, g) => r = .tup [.d (.raw (.pointer .none)), errA bs (some ((i : Int), g))] ∧ t = []
    | .ok k => ∃ c0 : Cr, k.cars = [c0] ∧ r = .tup [.ref (.g 0) 0, .d (.raw .nilIface)] ∧ t = [(0, chk 1 q2 q3 q4 1), (1, .arow 9 [carR c0 5]), (2, .dmap (encE k.fo)), (3, .dmap (encA k.aw)), (4, .dmap (encW k.cl)), (5, .dmap (encK c0.cm))]) := by
  have hlen := rowsV_len l
  obtain ⟨Y, hY0⟩ : ∃ Y, allX q2 ⟨[zC], [], [], []⟩ l 0 = Y := ⟨_, rfl⟩
  rw [hY0]
  refine rung24 0 [] rfl rfl ?_
  conv => whnf
  refine .obj rfl ?_
  conv => whnf
  refine ⟨_, _, ⟨WkL.refl _, start31_1 q2 q3 q4⟩, fun res s1 h => ?_⟩
  obtain ⟨rfl, rfl⟩ := h
  conv => whnf
  refine StopG.rounds wk24 [] [6, 12, 13, 14] (fun m env s => ∃ (i : Nat) (c0 : Cr) (fo : List Ep) (aw : List At) (cl : List (At × Int)), i ≤ l.length ∧ Nds ⟨[c0], fo, aw, cl⟩ ∧ allX q2 ⟨[c0], fo, aw, cl⟩ (l.drop i) i = Y ∧ m = l.length - i ∧ env = [(6, .ref (.g 0) 0), (12, .d (.list 9 (rowsV l))), (13, iV (l.length : Int)), (14, iV (i : Int))] ∧ s = [(0, chk 1 q2 q3 q4 1), (1, .arow 9 [carR c0 5]), (2, .dmap (encE fo)), (3, .dmap (encA aw)), (4, .dmap (encW cl)), (5, .dmap (encK c0.cm))]) rfl ?_ ?_
  · conv => whnf
    rw [hlen]
    exact ⟨_, 0, zC, [], [], [], Nat.zero_le _, ⟨.nil, .nil, .nil, fun c hc => by simp [zC] at hc; (try rcases hc with rfl); first | (rw [hc]; exact .nil) | exact .nil⟩, hY0, rfl, rfl, rfl⟩
  rintro m env s ⟨i, c0, fo, aw, cl, hi, hnd, hY, rfl, rfl, rfl⟩
  conv => whnf
  cases hlt : decide ((i : Int) < (l.length : Int)) with
  | false =>
    conv => whnf
    have hil := of_decide_eq_false hlt
    rw [show l.drop i = [] from List.drop_eq_nil_of_le (by omega)] at hY
    refine ⟨_, _, .refl, ?_⟩
    conv => whnf
    subst hY
    exact ⟨c0, rfl, rfl, rfl⟩
  | true =>
    have hil : i < l.length := by have := of_decide_eq_true hlt; omega
    obtain ⟨e, he, hd⟩ := at_i hil
    rw [hd] at hY
    unfold allX at hY
    conv => whnf
    refine ⟨rowV e, ⟨by omega, row_i he⟩, ?_⟩
    conv => whnf
    refine .obj rfl ?_
    conv => whnf
    refine ⟨_, _, ⟨WkL.refl _, event_1 1 q2 q3 q4 c0 fo aw cl e hnd⟩, fun res s1 h => ?_⟩
    cases hE : eventX q2 ⟨[c0], fo, aw, cl⟩ e with
    | error g =>
      rw [hE] at h hY
      obtain ⟨rfl, rfl⟩ := h
      conv => whnf
      refine ⟨_, _, GV.trans (GV.tidied [4, 5] (E := [(4, .d (.raw (.pointer .none))), (5, .ifc 54 (.ref (.g 0) 0))]) (S := [(0, .cells [iV (i : Int), .d (errD bs g)])]) ?_) (GV.freeze 0 rfl (by simp) (by repeat' first | exact trivial | apply And.intro | decide | (simp; done) | omega) (by repeat' first | exact trivial | apply And.intro | decide | (simp; done))), ?_⟩
      · conv => whnf
        exact ⟨rfl, rfl⟩
      conv => whnf
      subst hY
      exact ⟨rfl, rfl⟩
    | ok k9 =>
      rw [hE] at h hY
      obtain ⟨rfl, d0, hk9, hnd9, h3⟩ := h
      obtain ⟨cars9, fo9, aw9, cl9⟩ := k9
      have hk9 : cars9 = [d0] := hk9
      subst hk9
      rcases h3 with rfl | ⟨hc, rfl⟩
      · conv => whnf
        rw [succ_i hil (by omega)]
        exact ⟨_, by omega, i + 1, d0, fo9, aw9, cl9, hil, hnd9, hY, rfl, rfl, rfl⟩
      · conv => whnf
        rw [succ_i hil (by omega)]
        exact ⟨_, by omega, i + 1, d0, fo9, aw9, cl9, hil, hnd9, hY, rfl, rfl, by rw [hc]⟩
set_option maxHeartbeats 1000000 in
set_option maxRecDepth 100000 in
theorem check13_1 {bs : Nat → Addr} (q2 q3 q4 : Int) (l : List Ev) (hl : l.length ≤ 100000) : Contract Tryd.prog (G0 bs) 13 [.agg [iV 1, iV q2, iV q3, iV q4], .d (.list 9 (rowsV l))] [] (fun r t => r = errA bs (errOf (allX q2 ⟨[zC], [], [], []⟩ l 0)) ∧ t = []) := by
  have hall := all24_1 (bs := bs) q2 q3 q4 l hl
  cases hA : allX q2 ⟨[zC], [], [], []⟩ l 0 with
  | error p =>
    obtain ⟨i, g⟩ := p
    rw [hA] at hall
    refine run13 0 [] rfl rfl ?_
    conv => whnf
    refine .obj rfl ?_
    conv => whnf
    refine ⟨_, _, ⟨WkL.refl _, hall⟩, fun res s1 h => ?_⟩
    obtain ⟨rfl, rfl⟩ := h
    conv => whnf
    exact ⟨rfl, rfl⟩
  | ok k =>
    rw [hA] at hall
    refine run13 0 [] rfl rfl ?_
    conv => whnf
    refine .obj rfl ?_
    conv => whnf
    refine ⟨_, _, ⟨WkL.refl _, hall⟩, fun res s1 h => ?_⟩
    obtain ⟨c0, _, rfl, rfl⟩ := h
    conv => whnf
    exact ⟨rfl, rfl⟩
end Go.Proofs.YtpfmnccocmgfmaaDoor
