/- A struct's or an array's literal; equality. -/
import Derived.Test.YtkenimmellonjaaPvK
import Derived.Laws.Tables
namespace Go.Pv
open Go.RowKit

def setN {α : Type} (cs : List α) (off : Nat) (xs : List α) : List α := cs.take off ++ xs ++ cs.drop (off + xs.length)
theorem setN_len {α : Type} {cs xs : List α} {off : Nat} (h : off + xs.length ≤ cs.length) : (setN cs off xs).length = cs.length := by simp [setN]; omega
theorem setN_get {α : Type} {cs xs : List α} {off : Nat} (h : off + xs.length ≤ cs.length) (j : Nat) : (setN cs off xs)[j]? = if off ≤ j ∧ j < off + xs.length then xs[j - off]? else cs[j]? := by
  unfold setN
  by_cases h1 : j < off
  · rw [if_neg (by omega), List.getElem?_append_left (by simp; omega), List.getElem?_append_left (by simp; omega), List.getElem?_take_of_lt h1]
  · by_cases h2 : j < off + xs.length
    · rw [if_pos (by omega), List.getElem?_append_left (by simp; omega), List.getElem?_append_right (by simp; omega)]
      congr 1
      simp
      omega
    · rw [if_neg (by omega), List.getElem?_append_right (by simp; omega), List.getElem?_drop]
      congr 1
      simp
      omega

def vfill (place : List (Nat × Nat)) : List AV → List (Nat × AV) → Option (List AV)
  | cs, [] => some cs
  | cs, (i, x) :: r => match place[i]? with
    | some (off, size) => match boxable x && Nat.beq x.cells.length size && Nat.ble (off + size) cs.length with
      | true => vfill place (setN cs off x.cells) r
      | false => none
    | none => none
def fplaces (T : Nat → Option TI) : List Field → Option (List (Nat × Nat))
  | [] => some []
  | f :: r => match T f.type with
    | some tf => match fplaces T r with
      | some ps => some ((f.offset, tf.size) :: ps)
      | none => none
    | none => none
def eplaces (size : Nat) : Nat → Nat → List (Nat × Nat)
  | 0, _ => []
  | n + 1, off => (off, size) :: eplaces size n (off + size)
def placesOf (T : Nat → Option TI) (ti : TI) : Option (List (Nat × Nat)) := match ti.u with
  | .struct fs => fplaces T fs.toList
  | .array n e => match T e with
    | some te => some (eplaces te.size n 0)
    | none => none
  | _ => none

theorem eplaces_get {size : Nat} : ∀ (n off i : Nat) (p : Nat × Nat), (eplaces size n off)[i]? = some p → p = (off + i * size, size)
  | 0, off, i, p, h => by simp [eplaces] at h
  | n + 1, off, 0, p, h => by simp [eplaces] at h; simp [← h]
  | n + 1, off, i + 1, p, h => by
    simp only [eplaces, List.getElem?_cons_succ] at h
    rw [eplaces_get n (off + size) i p h, Nat.succ_mul]
    simp; omega

section
variable {P : Program} {G : Gl} {T : Nat → Option TI} {o : Oper} {rh : Operand → AV} {L : List AB} {s : List (Nat × AB)} {M : Mp} {F : Nat → Prop} {w : World}

theorem fplaces_run (hT : TabOK P T) : ∀ {fs : List Field} {ps : List (Nat × Nat)}, fplaces T fs = some ps → fs.mapM (fun f => (P.info? f.type).map fun i => (f.offset, i.size)) = some ps
  | [], ps, h => by simp only [fplaces, Option.some.injEq] at h; subst h; rfl
  | f :: r, ps, h => by
    simp only [fplaces] at h
    split at h <;> try cases h
    rename_i tf htf
    split at h <;> try cases h
    rename_i ps' hps
    obtain ⟨_, _, i, z, zs, h3, h4, _⟩ := hT f.type tf htf
    rw [List.mapM_cons, h3, fplaces_run hT hps]
    simp [h4]

theorem vfill_run {a : Act} {pl : Nat → Option (Nat × Nat)} {place : List (Nat × Nat)} (hp : ∀ i p, place[i]? = some p → pl i = some p) :
    ∀ (parts : List (Nat × Operand)) (cs : List AV) (arr : Array Value) (cs' : List AV), vfill place cs (parts.map fun p => (p.1, rh p.2)) = some cs' → (∀ p ∈ parts, RV M F w (rh p.2) (a.eval p.2)) → arr.size = cs.length →
    (∀ (j : Nat) (x : AV) (v : Value), cs[j]? = some x → arr[j]? = some v → v.oneCell' = true ∧ RV M F w x v) →
    ∃ arr', Instr.fill pl arr (parts.map fun p => (p.1, a.eval p.2)) = some arr' ∧ arr'.size = cs'.length ∧ ∀ (j : Nat) (x : AV) (v : Value), cs'[j]? = some x → arr'[j]? = some v → v.oneCell' = true ∧ RV M F w x v
  | [], cs, arr, cs', h, _, hsz, hc => by
    simp only [List.map_nil, vfill, Option.some.injEq] at h
    subst h
    exact ⟨arr, rfl, hsz, hc⟩
  | (i, x) :: r, cs, arr, cs', h, hx, hsz, hc => by
    simp only [List.map_cons, vfill] at h
    split at h <;> try cases h
    rename_i off size hpl
    split at h <;> try cases h
    rename_i hb
    simp only [Bool.and_eq_true] at hb
    obtain ⟨⟨hb1, hb2⟩, hb3⟩ := hb
    have hb2 := Nat.eq_of_beq_eq_true hb2
    have hb3 := Nat.le_of_ble_eq_true hb3
    have hbx : ∀ y : AV, boxable y = true → (∀ vs, y ≠ .tup vs) ∧ y ≠ .undef := fun y hy => ⟨fun vs e => by rw [e] at hy; simp [boxable] at hy, fun e => by rw [e] at hy; simp [boxable] at hy⟩
    obtain ⟨h2, h3⟩ := (hx (i, x) (by simp)).cells (hbx _ hb1).1 (hbx _ hb1).2
    have hset : (a.eval x).cells.zipIdx.foldl (fun cs (c, j) => cs.setIfInBounds (off + j) c) arr = (((a.eval x).cells.toList.zipIdx 0).foldl (fun a (p : Value × Nat) => a.setIfInBounds (off + p.2) p.1) arr) := by
      rw [← Array.foldl_toList]
      congr 1
      simp
    have hget : ∀ j, ((a.eval x).cells.zipIdx.foldl (fun cs (c, j) => cs.setIfInBounds (off + j) c) arr)[j]? = if off ≤ j ∧ j < off + size then (a.eval x).cells[j - off]? else arr[j]? := by
      intro j
      rw [hset, foldl_set]
      simp only [Nat.add_zero, Array.length_toList, h2, hb2]
      by_cases hj : off ≤ j ∧ j < off + size
      · rw [if_pos (by omega), if_pos hj]
        simp
      · rw [if_neg (by omega), if_neg hj]
    have hlen : (setN cs off (rh x).cells).length = cs.length := setN_len (by omega)
    obtain ⟨arr', h4, h5, h6⟩ := vfill_run hp r (setN cs off (rh x).cells) ((a.eval x).cells.zipIdx.foldl (fun cs (c, j) => cs.setIfInBounds (off + j) c) arr) cs' h (fun p hp => hx p (by simp [hp])) (by
      rw [hlen, ← hsz]
      have hfs : ∀ (l : List (Value × Nat)) (b : Array Value), (l.foldl (fun a (p : Value × Nat) => a.setIfInBounds (off + p.2) p.1) b).size = b.size := by
        intro l
        induction l with
        | nil => intro b; rfl
        | cons q l ih => intro b; rw [List.foldl_cons, ih]; simp
      rw [hset, hfs]) (fun j y u hy hu => by
      rw [setN_get (by omega)] at hy
      rw [hget] at hu
      by_cases hj : off ≤ j ∧ j < off + size
      · rw [if_pos (by omega)] at hy
        rw [if_pos hj] at hu
        exact h3 _ y u hy hu
      · rw [if_neg (by omega)] at hy
        rw [if_neg hj] at hu
        exact hc j y u hy hu)
    refine ⟨arr', ?_, h5, h6⟩
    simp only [List.map_cons, Instr.fill, hp i _ hpl]
    rw [if_neg (by simp [h2, hb2, hsz]; omega)]
    exact h4

def vbuild (T : Nat → Option TI) (t : Nat) (parts : List (Nat × AV)) : Option (List AV) := match T t with
  | some ti => match placesOf T ti with
    | some ps => vfill ps (ti.zero.map .d) parts
    | none => none
  | none => none
theorem pj_build (hT : TabOK P T) {t : TypeId} {parts : Array (Nat × Operand)} {cs : List AV} (ho : o.op = .build t parts) (h : vbuild T t (parts.toList.map fun p => (p.1, rh p.2)) = some cs) : PJ P G o rh L s (.agg cs) [] := by
  refine pj_value fun M F U w a hS hG hx => ?_
  unfold vbuild at h
  split at h <;> try cases h
  rename_i ti ht
  split at h <;> try cases h
  rename_i ps hps
  obtain ⟨h1, h2, i, z, zs, h3, h4, h5, h6, h7, h8, h9, h10, h11⟩ := hT t ti ht
  have hz : ∀ (j : Nat) (x : AV) (v : Value), (ti.zero.map AV.d)[j]? = some x → z.cells[j]? = some v → v.oneCell' = true ∧ RV M F w x v := by
    intro j y u hy hu
    rw [List.getElem?_map] at hy
    obtain ⟨y', hy', rfl⟩ := Option.map_eq_some_iff.1 hy
    rw [h7] at hu
    simp only [List.getElem?_toArray] at hu
    have h12 : (ti.zero.map dconst)[j]? = (zs.map some)[j]? := by rw [h8]
    simp only [List.getElem?_map, hy', hu, Option.map_some] at h12
    injection h12 with h12
    have := dconst_RD (N := F) (w := w) h12
    exact ⟨this.oneCell, .d this⟩
  have hzl : z.cells.size = (ti.zero.map AV.d).length := by
    rw [h7]
    have := congrArg List.length h8
    simp at this
    simp [this]
  have hparts : ∀ p ∈ parts.toList, RV M F w (rh p.2) (a.eval p.2) := fun p hp => hx p.2 (by
    simp only [ho, Op.operands]
    simp
    exact ⟨p.1, by simpa using hp⟩)
  have key : ∀ pl : Nat → Option (Nat × Nat), (∀ i p, ps[i]? = some p → pl i = some p) → P.built t (parts.map fun (i, x) => (i, a.eval x)).toList = Instr.fill pl z.cells (parts.toList.map fun p => (p.1, a.eval p.2)) → ∃ val, (execOp a.eval o).run P w = .ok (.value val) w ∧ RV M F w (.agg cs) val := by
    intro pl hpl hb
    obtain ⟨arr', k1, k2, k3⟩ := vfill_run hpl parts.toList _ z.cells cs h hparts hzl hz
    refine ⟨.agg arr', ?_, ?_⟩
    · simp only [execOp, ho, Sem.run_bind]
      rw [run_build w t _ arr' (by rw [hb, k1])]
      rfl
    · have := RV.agg (M := M) (F := F) (w := w) cs arr'.toList (by simp [k2]) (fun j v hv => by
        have hj := (List.getElem?_eq_some_iff.1 hv).1
        simp [k2] at hj
        exact (k3 j _ v (List.getElem?_eq_getElem hj) (by simpa using hv)).1) (fun j x v hx' hv => (k3 j x v hx' (by simpa using hv)).2)
      simpa using this
  unfold placesOf at hps
  split at hps
  · rename_i fs hu
    refine key (fun x => ps[x]?) (fun i p h => h) ?_
    unfold Program.built
    simp only [h3, h1, hu, h6, fplaces_run hT hps]
    simp
  · rename_i n e hu
    split at hps <;> try cases hps
    rename_i te hte
    obtain ⟨_, _, ie, _, _, g3, g4, _⟩ := hT e te hte
    refine key (fun i => some (i * te.size, te.size)) (fun i p h => by rw [eplaces_get _ _ _ _ h]; simp) ?_
    unfold Program.built
    simp only [h3, h1, hu, h6, g3, g4]
    simp
  · cases hps

/-! ### Equality -/
/-- Whether it is nil. -/
def nilness (u : TypeDesc) (x : AV) : Option Bool := match u with
  | .slice _ => match x with
    | .d .nil => some true
    | .d (.list _ (_ :: _)) => some false
    | _ => none
  | .map _ _ => match x with
    | .d (.raw (.map none)) => some true
    | .mp _ => some false
    | _ => none
  | .pointer _ => match x with
    | .d (.raw (.pointer none)) => some true
    | .d (.ptr _ _) => some false
    | .ref _ _ => some false
    | .el _ _ _ _ => some false
    | _ => none
  | .func _ _ _ => match x with
    | .d (.raw .nilFunc) => some true
    | .fn _ _ => some false
    | _ => none
  | .interface _ => match x with
    | .d (.raw .nilIface) => some true
    | .d (.iface _ _) => some false
    | .ifc _ _ => some false
    | _ => none
  | _ => none
def veqv (u : TypeDesc) (x y : AV) : Option Bool := match u with
  | .bool => match x, y with
    | .d (.bool a), .d (.bool b) => some (a == b)
    | _, _ => none
  | u => match nilness u x with
    | some true => nilness u y
    | some false => match nilness u y with
      | some true => some false
      | _ => none
    | none => none
theorem eqv_run (hT : TabOK P T) {t : TypeId} {ti : TI} (ht : T t = some ti) {X Y : AV} {x y : Value} {r : Bool} (hx : RV M F w X x) (hy : RV M F w Y y) (h : veqv ti.u X Y = some r) : (Op.equal t x y).run P w = .ok r w := by
  have h1 := (hT t ti ht).1
  have nl : ∀ {u : TypeDesc} {X : AV} {x : Value} {b : Bool}, RV M F w X x → nilness u X = some b → (match u with
      | .slice _ => ∃ a n m, x = .slice a n m ∧ a.isNone = b
      | .map _ _ => ∃ a, x = .map a ∧ a.isNone = b
      | .pointer _ => ∃ a, x = .pointer a ∧ a.isNone = b
      | .func _ _ _ => (b = true ∧ x = .nilFunc) ∨ (b = false ∧ ∃ f g c, x = .func f g c)
      | .interface _ => (b = true ∧ x = .nilIface) ∨ (b = false ∧ ∃ t v, x = .iface t v)
      | _ => False) := by
    intro u X x b hx h
    cases u <;> simp only [nilness] at h <;> try cases h
    case pointer e =>
      split at h <;> cases h
      · exact ⟨none, hx.raw_inv, rfl⟩
      · cases hx with | d h => cases h; exact ⟨_, rfl, rfl⟩
      · cases hx; exact ⟨_, rfl, rfl⟩
      · cases hx; exact ⟨_, rfl, rfl⟩
    case slice e =>
      split at h <;> cases h
      · exact ⟨none, 0, 0, hx.nil_inv, rfl⟩
      · cases hx with | d h => cases h; exact ⟨_, _, _, rfl, rfl⟩
    case map k e =>
      split at h <;> cases h
      · exact ⟨none, hx.raw_inv, rfl⟩
      · cases hx; exact ⟨_, rfl, rfl⟩
    case func ps rs v =>
      split at h <;> cases h
      · exact .inl ⟨rfl, hx.raw_inv⟩
      · cases hx; exact .inr ⟨rfl, _, _, _, rfl⟩
    case interface ms =>
      split at h <;> cases h
      · exact .inl ⟨rfl, hx.raw_inv⟩
      · cases hx with | d h => cases h; exact .inr ⟨rfl, _, _, rfl⟩
      · cases hx; exact .inr ⟨rfl, _, _, rfl⟩
  have two : ∀ {u : TypeDesc}, (match nilness u X with
    | some true => nilness u Y
    | some false => match nilness u Y with
      | some true => some false
      | _ => none
    | none => none) = some r → ∃ b1 b2, nilness u X = some b1 ∧ nilness u Y = some b2 ∧ ((b1 = true ∧ r = b2) ∨ (b1 = false ∧ b2 = true ∧ r = false)) := by
    intro u h
    split at h
    · rename_i e; exact ⟨true, r, e, h, .inl ⟨rfl, rfl⟩⟩
    · rename_i e
      split at h <;> cases h
      rename_i e2
      exact ⟨false, true, e, e2, .inr ⟨rfl, rfl, rfl⟩⟩
    · cases h
  rw [show Op.equal t x y = Op.equalIn (9999 + 1) t x y from rfl]
  generalize 9999 = d
  cases hu : ti.u <;> rw [hu] at h h1 <;> simp only [veqv] at h
  case bool =>
    split at h <;> cases h
    rw [hx.bool_inv, hy.bool_inv]
    simp [Op.equalIn, run_underlying' h1]
  case pointer e =>
    obtain ⟨b1, b2, e1, e2, hr⟩ := two h
    obtain ⟨a1, rfl, k1⟩ := nl hx e1
    obtain ⟨a2, rfl, k2⟩ := nl hy e2
    rcases hr with ⟨rfl, rfl⟩ | ⟨rfl, rfl, rfl⟩
    · cases a1 with
      | none => simp [Op.equalIn, run_underlying' h1, k2]
      | some a => cases k1
    · cases a1 with
      | none => cases k1
      | some a =>
        cases a2 with
        | none => simp [Op.equalIn, run_underlying' h1]
        | some a => cases k2
  case slice e =>
    obtain ⟨b1, b2, e1, e2, hr⟩ := two h
    obtain ⟨a1, n1, m1, rfl, k1⟩ := nl hx e1
    obtain ⟨a2, n2, m2, rfl, k2⟩ := nl hy e2
    rcases hr with ⟨rfl, rfl⟩ | ⟨rfl, rfl, rfl⟩
    · cases a1 with
      | none => simp [Op.equalIn, run_underlying' h1, k2]
      | some a => cases k1
    · cases a1 with
      | none => cases k1
      | some a =>
        cases a2 with
        | none => simp [Op.equalIn, run_underlying' h1]
        | some a => cases k2
  case map k e =>
    obtain ⟨b1, b2, e1, e2, hr⟩ := two h
    obtain ⟨a1, rfl, k1⟩ := nl hx e1
    obtain ⟨a2, rfl, k2⟩ := nl hy e2
    rcases hr with ⟨rfl, rfl⟩ | ⟨rfl, rfl, rfl⟩
    · cases a1 with
      | none => simp [Op.equalIn, run_underlying' h1, k2]
      | some a => cases k1
    · cases a1 with
      | none => cases k1
      | some a =>
        cases a2 with
        | none => simp [Op.equalIn, run_underlying' h1]
        | some a => cases k2
  case func ps rs v =>
    obtain ⟨b1, b2, e1, e2, hr⟩ := two h
    rcases nl hx e1 with ⟨rfl, rfl⟩ | ⟨rfl, f1, g1, c1, rfl⟩ <;> rcases nl hy e2 with ⟨rfl, rfl⟩ | ⟨rfl, f2, g2, c2, rfl⟩ <;> rcases hr with ⟨q, rfl⟩ | ⟨q, q2, rfl⟩ <;>
      first | (cases q; done) | (cases q2; done) | simp [Op.equalIn, run_underlying' h1]
  case interface ms =>
    obtain ⟨b1, b2, e1, e2, hr⟩ := two h
    rcases nl hx e1 with ⟨rfl, rfl⟩ | ⟨rfl, f1, g1, rfl⟩ <;> rcases nl hy e2 with ⟨rfl, rfl⟩ | ⟨rfl, f2, g2, rfl⟩ <;> rcases hr with ⟨q, rfl⟩ | ⟨q, q2, rfl⟩ <;>
      first | (cases q; done) | (cases q2; done) | simp [Op.equalIn, run_underlying' h1]
  all_goals simp [nilness] at h

def isC : Operand → Bool
  | .const _ => true
  | _ => false
theorem run_eqGuard' {op : BinOp} {t : TypeId} {x y : Operand} {a b : Value} (h5 : ∀ cs, a ≠ .agg cs) (h6 : a = .nilIface → (isC x || isC y) = true) : (eqGuard op t x y a b).run P w = .ok () w := by
  have key : ∀ op : BinOp, op = .eql ∨ op = .neq → (eqGuard op t x y a b).run P w = .ok () w := by
    intro op hop
    cases a <;> try (rcases hop with rfl | rfl <;> rfl)
    case agg cs => exact absurd rfl (h5 cs)
    case nilIface =>
      have h6 := h6 rfl
      cases b <;> try (rcases hop with rfl | rfl <;> rfl)
      case nilIface =>
        cases x with
        | const c => rcases hop with rfl | rfl <;> rfl
        | _ => cases y with
          | const c => rcases hop with rfl | rfl <;> rfl
          | _ => cases h6
  cases op <;> first | exact key _ (.inl rfl) | exact key _ (.inr rfl) | rfl
/-- '==' and '!=' of bools, and against nil. -/
theorem pj_eqv (hT : TabOK P T) {op : BinOp} {t ty : TypeId} {ti : TI} (ht : T t = some ti) {x y : Operand} {r v : Bool} (ho : o.op = .binOp op t x y ty) (hc : (isC x || isC y || (match ti.u with
    | .interface _ => false
    | _ => true)) = true) (h : veqv ti.u (rh x) (rh y) = some r) (hop : (op = .eql ∧ v = r) ∨ (op = .neq ∧ v = !r)) : PJ P G o rh L s (.d (.bool v)) [] := by
  refine pj_value fun M F U w a hS hG hx => ?_
  have h1 := hx x (by simp [ho, Op.operands])
  have h2 := hx y (by simp [ho, Op.operands])
  have hr := eqv_run hT ht h1 h2 h
  refine ⟨.bool v, ?_, .d (.bool v)⟩
  -- neither is a number, a string or an aggregate
  have hno : ∀ {X : AV} {u : Value}, RV M F w X u → (X = rh x ∨ X = rh y) → (∀ k n, u ≠ .int k n) ∧ (∀ s, u ≠ .string s) ∧ (∀ k n, u ≠ .float k n) ∧ (∀ k n m, u ≠ .complex k n m) ∧ (∀ cs, u ≠ .agg cs) ∧ (u = .nilIface → ∃ ms, ti.u = .interface ms) := by
    intro X u hu hX
    have : (∃ b, X = .d (.bool b)) ∨ ∃ b, nilness ti.u X = some b := by
      unfold veqv at h
      split at h
      · split at h <;> try cases h
        rename_i a b e1 e2
        rcases hX with rfl | rfl
        · exact .inl ⟨a, e1⟩
        · exact .inl ⟨b, e2⟩
      · split at h
        · rename_i e; rcases hX with rfl | rfl
          · exact .inr ⟨_, e⟩
          · exact .inr ⟨_, h⟩
        · rename_i e
          split at h <;> cases h
          rename_i e2
          rcases hX with rfl | rfl
          · exact .inr ⟨_, e⟩
          · exact .inr ⟨_, e2⟩
        · cases h
    rcases this with ⟨b, rfl⟩ | ⟨b, hb⟩
    · rw [hu.bool_inv]; simp
    · unfold nilness at hb
      split at hb <;> try cases hb
      all_goals (split at hb <;> try cases hb)
      all_goals first
        | (rw [hu.raw_inv]; simp_all; done)
        | (rw [hu.nil_inv]; simp; done)
        | (cases hu with | d hd => cases hd; simp)
        | (cases hu; simp)
  obtain ⟨n1, n2, n3, n4, n5, n6⟩ := hno h1 (.inl rfl)
  obtain ⟨m1, m2, m3, m4, m5, m6⟩ := hno h2 (.inr rfl)
  have hguard : (eqGuard op t x y (a.eval x) (a.eval y)).run P w = .ok () w := by
    refine run_eqGuard' n5 (fun e => ?_)
    obtain ⟨ms, hms⟩ := n6 e
    rw [hms] at hc
    simpa using hc
  simp only [execOp, ho, Sem.run_bind, hguard, Result.andThen_ok]
  have hbin : (binOp op t (a.eval x) (a.eval y)).run P w = .ok (.bool v) w := by
    generalize a.eval x = X at *
    generalize a.eval y = Y at *
    have e1 : binOp .eql t X Y = (do pure (.bool (← Op.equal t X Y)) : Sem Value) := by
      cases X <;> first
        | rfl
        | exact absurd rfl (n1 _ _)
        | exact absurd rfl (n2 _)
        | exact absurd rfl (n3 _ _)
        | exact absurd rfl (n4 _ _ _)
    have e2 : binOp .neq t X Y = (do pure (.bool (!(← Op.equal t X Y))) : Sem Value) := by
      cases X <;> first
        | rfl
        | exact absurd rfl (n1 _ _)
        | exact absurd rfl (n2 _)
        | exact absurd rfl (n3 _ _)
        | exact absurd rfl (n4 _ _ _)
    rcases hop with ⟨rfl, rfl⟩ | ⟨rfl, rfl⟩
    · rw [e1, Sem.run_bind, hr]; rfl
    · rw [e2, Sem.run_bind, hr]; rfl
  rw [hbin]
  rfl
end
end Go.Pv
