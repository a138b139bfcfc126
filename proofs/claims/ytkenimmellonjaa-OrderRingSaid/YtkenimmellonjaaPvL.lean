/- The telling of operations that write nothing that was there. -/
import Derived.Test.YtkenimmellonjaaPvZ
import Derived.Test.YtkenimmellonjaaPvK7
namespace Go.Pv
open Go.RowKit

/-- What is asked beside: the program's table, the globals, the number of temporaries, the slots that live beyond their region. -/
structure Ctx where
  T : Nat → Option TI
  G : Gl
  nt : Nat
  keep : List Nat

def ld (ti : TI) (xs : List AV) (K : AV → List AB → Prop) : Prop := match Nat.beq xs.length ti.size with
  | true => match ofCells ti.agg xs with
    | some v => K v []
    | none => False
  | false => False
def isNotNil : AV → Bool
  | .ref _ _ => true
  | .el _ _ _ _ => true
  | .d (.ptr _ _) => true
  | .fn _ _ => true
  | _ => false
def vfld (T : Nat → Option TI) (t f : Nat) : Option Nat := match T t with
  | some ti => match ti.u with
    | .struct fs => match fs[f]? with
      | some fd => match T fd.type with
        | some tf => match tf.size with
          | 0 => none
          | _ + 1 => some fd.offset
        | none => none
      | none => none
    | _ => none
  | none => none
/-- A slice type's element. -/
def velem (T : Nat → Option TI) (t : Nat) : Option TI := match T t with
  | some ti => match ti.u with
    | .slice e => T e
    | _ => none
  | none => none

def veq1 (T : Nat → Option TI) (t : Nat) (x y : Operand) (X Y : AV) : Option Bool := match T t with
  | some ti => match isC x || isC y || (match ti.u with
      | .interface _ => false
      | _ => true) with
    | true => veqv ti.u X Y
    | false => none
  | none => none
/-- Called of one operation; K: what comes of it, the value and the new blocks. -/
def vop (P : Program) (cx : Ctx) (im : Prop → Prop) (rh : Operand → AV) (L : List AB) (s : List (Nat × AB)) (op : Op) (K : AV → List AB → Prop) : Prop := match op with
  | .move x => K (rh x) []
  | .assign x => K (rh x) []
  | .pick c x y => match rh c with
    | .d (.bool p) => match rh x with
      | .d (.bool b1) => match rh y with
        | .d (.bool b2) => K (.d (.bool (cond p b1 b2))) []
        | .undef => im (p = true) ∧ K (.d (.bool b1)) []
        | _ => False
      | .undef => match rh y with
        | .d (.bool b2) => im (p = false) ∧ K (.d (.bool b2)) []
        | _ => False
      | _ => False
    | _ => False
  | .build t parts => match vbuild cx.T t (parts.toList.map fun p => (p.1, rh p.2)) with
    | some cs => K (.agg cs) []
    | none => False
  | .binOp op t x y _ => match vbin op (rh x) (rh y) with
    | some v => K v []
    | none => match op with
      | .eql => match veq1 cx.T t x y (rh x) (rh y) with
        | some r => K (.d (.bool r)) []
        | none => False
      | .neq => match veq1 cx.T t x y (rh x) (rh y) with
        | some r => K (.d (.bool (!r))) []
        | none => False
      | .quo => match rh x, rh y with
        | .d (.int k a), .d (.int k' b) => im (k = k' ∧ b ≠ 0) ∧ K (.d (.int k (k.wrap (a.tdiv b)))) []
        | _, _ => False
      | .rem => match rh x, rh y with
        | .d (.int k a), .d (.int k' b) => im (k = k' ∧ b ≠ 0) ∧ K (.d (.int k (a.tmod b))) []
        | _, _ => False
      | _ => False
  | .lookup t x k ok => match cx.T t with
    | some ti => match ti.u with
      | .map kt et => match flatK cx.T kt with
        | some c => match cx.T et with
          | some te => match dxOf (rh k) with
            | some kx => match rh x with
              | .mp (.g id) => match sfind s id with
                | some (.dmap es) => P.stoodInHeld kt = false ∧ ∃ r, im (kgood c kx = true ∧ (∀ e ∈ es, kgood c e.1 = true) ∧ dget es kx r) ∧ K (lres ok te r) []
                | _ => False
              | .d (.raw (.map none)) => im (kgood c kx = true) ∧ K (lres ok te none) []
              | _ => False
            | none => False
          | none => False
        | none => False
      | _ => False
    | none => False
  | .unOp op _ x => match vun op (rh x) with
    | some v => K v []
    | none => False
  | .extract x i => match rh x with
    | .tup vs => match vs[i]? with
      | some v => K v []
      | none => False
    | _ => False
  | .makeFunc (.func f) first caps => match first.toList with
    | [] => K (.fn f (caps.toList.map rh)) []
    | _ :: _ => False
  | .load t x => match cx.T t with
    | some ti => match rh x with
      | .ref (.l k) off => match L[k]? with
        | some (.cells cs) => ld ti (takeN cs off ti.size) K
        | _ => False
      | .ref (.g id) off => match sfind s id with
        | some (.cells cs) => ld ti (takeN cs off ti.size) K
        | _ => False
      | .d (.ptr cs off) => ld ti ((takeN cs off ti.size).map .d) K
      | .el (.l k) sz i j => match L[k]? with
        | some (.row sz' rows) => ∃ row, im (rows[i]? = some row) ∧ (sz' = sz ∧ ld ti ((takeN row j ti.size).map .d) K)
        | _ => False
      | .el (.g id) sz i j => match sfind s id with
        | some (.row sz' rows) => ∃ row, im (rows[i]? = some row) ∧ (sz' = sz ∧ ld ti ((takeN row j ti.size).map .d) K)
        | _ => False
      | _ => False
    | none => False
  | .fieldAddr t x f => match vfld cx.T t f with
    | some off => match vfield off (rh x) with
      | some v => K v []
      | none => False
    | none => False
  | .indexAddr t x y => match velem cx.T t with
    | some te => match rh y with
      | .d (.int _ n) => match rh x with
        | .d (.list sz rows) => match Nat.beq te.size sz with
          | true => ∃ row, im (0 ≤ n ∧ rows[n.toNat]? = some row) ∧ K (.d (.ptr row 0)) []
          | false => False
        | .slc r sz off len _ => match Nat.beq te.size sz with
          | true => im (0 ≤ n ∧ n < (len : Int)) ∧ K (.el r sz (off + n.toNat) 0) []
          | false => False
        | _ => False
      | _ => False
    | none => False
  | .slice t x lo hi mx => match velem cx.T t with
    | some te => match mx with
      | none => match obd rh lo 0 with
        | some l => match rh x with
          | .d (.list sz rows) => match obd rh hi rows.length, Nat.beq te.size sz with
            | some h, true => im (0 ≤ l ∧ l ≤ h ∧ h ≤ rows.length) ∧ K (.d (.list sz ((rows.take h.toNat).drop l.toNat))) []
            | _, _ => False
          | .d .nil => match obd rh hi 0 with
            | some h => im (l = 0 ∧ h = 0) ∧ K (.d .nil) []
            | none => False
          | .d .emp => match obd rh hi 0 with
            | some h => im (l = 0 ∧ h = 0) ∧ K (.d .emp) []
            | none => False
          | .slc r sz off len cap => match obd rh hi len, Nat.beq te.size sz with
            | some h, true => im (0 ≤ l ∧ l ≤ h ∧ h ≤ cap) ∧ K (.slc r sz (off + l.toNat) (h.toNat - l.toNat) (cap - l.toNat)) []
            | _, _ => False
          | _ => False
        | none => False
      | some (.const (.int _ 0)) => match hi with
        | some (.const (.int _ 0)) => match (match lo with
            | none => true
            | some (.const (.int _ 0)) => true
            | _ => false) with
          | true => match rh x with
            | .d .nil => K (.d .nil) []
            | .d .emp => K (.d .emp) []
            | .d (.list _ _) => K (.d .emp) []
            | .slc _ _ _ _ _ => K (.d .emp) []
            | _ => False
          | false => False
        | _ => False
      | _ => False
    | none => False
  | .box _ x => match boxable (rh x) with
    | true => fLen L lits 0 fun k => K (.ref (.l k) 0) [.cells (rh x).cells]
    | false => False
  | .alloc t => match cx.T t with
    | some ti => fLen L lits 0 fun k => K (.ref (.l k) 0) [.cells (ti.zero.map .d)]
    | none => False
  | .buildSlice t len parts => match velem cx.T t with
    | some te => match dataRows (parts.toList.map fun p => rh p.2) with
      | some rows => match Nat.beq parts.toList.length len && idxs 0 parts.toList && Nat.ble (len * te.size) 16777216 && allLen te.size rows with
        | true => match rows with
          | [] => K (.d .emp) []
          | r :: rs => K (.d (.list te.size (r :: rs))) []
        | false => False
      | none => False
    | none => False
  | .nilCheck x => match isNotNil (rh x) with
    | true => K (rh x) []
    | false => False
  | .call c => match c.callee with
    | .builtin .len => match c.args.toList with
      | [x] => match velem cx.T (c.argTypes.getD 0 0) with
        | some _ => match vlen (rh x) with
          | some n => match Nat.beq c.argTypes.size 1 with
            | true => K (.d (.int .i64 n)) []
            | false => False
          | none => False
        | none => match cx.T (c.argTypes.getD 0 0) with
          | some ti => match ti.u with
            | .map _ _ => match vmlen s (rh x) with
              | some n => match Nat.beq c.argTypes.size 1 with
                | true => K (.d (.int .i64 n)) []
                | false => False
              | none => False
            | _ => False
          | none => False
      | _ => False
    | .builtin .cap => match c.args.toList with
      | [x] => match velem cx.T (c.argTypes.getD 0 0) with
        | some _ => match vcap (rh x) with
          | some n => match Nat.beq c.argTypes.size 1 with
            | true => K (.d (.int .i64 n)) []
            | false => False
          | none => False
        | none => False
      | _ => False
    | .builtin .min => match c.args.toList with
      | [x, y] => match rh x with
        | .d (.int k a) => match rh y with
          | .d (.int _ b) => K (.d (.int k (if b < a then b else a))) []
          | _ => False
        | _ => False
      | _ => False
    | .builtin .max => match c.args.toList with
      | [x, y] => match rh x with
        | .d (.int k a) => match rh y with
          | .d (.int _ b) => K (.d (.int k (if b > a then b else a))) []
          | _ => False
        | _ => False
      | _ => False
    | .value f => match rh f with
      | .fn g caps => (∃ args' v, im (Lend s (c.args.toList.map rh ++ caps) args' ∧ (nrL args' && v.scal) = true ∧ Contract P cx.G g args' [] (fun r t => r = v ∧ t = [])) ∧ K v []) ∨
        (∃ args' v, im (WkL (c.args.toList.map rh ++ caps) args' ∧ (nrL args' && nrL [v]) = true ∧ Contract P cx.G g args' [] (fun r t => r = v ∧ t = [])) ∧ K v [])
      | _ => False
    | _ => False
  | _ => False

theorem nr2 {a b : Bool} (h : (a && b) = true) : a = true ∧ b = true := by simpa using h
theorem velem_inv {T : Nat → Option TI} {t : Nat} {te : TI} (h : velem T t = some te) : ∃ ti e, T t = some ti ∧ ti.u = .slice e ∧ T e = some te := by
  unfold velem at h
  split at h
  · rename_i ti hti
    split at h
    · rename_i e he
      exact ⟨ti, e, hti, he, h⟩
    · cases h
  · cases h

theorem pj_cond {P : Program} {G : Gl} {o : Oper} {rh : Operand → AV} {L : List AB} {s : List (Nat × AB)} {v : AV} {new : List AB} (hp : ∀ c x y, o.op ≠ .pick c x y) (h : PJ P G o rh L s v new) : PJ2 P G o rh L s v new := by
  intro M F U w a hS hG hO
  refine h M F U w a hS hG ?_
  unfold Opn at hO
  split at hO
  · rename_i c x y he; exact absurd he (hp c x y)
  · exact hO

theorem arr_toList {α : Type} {xs : Array α} {l : List α} (h : xs.toList = l) : xs = l.toArray := by rw [← h]

set_option maxHeartbeats 1000000 in
theorem vop_sound {P : Program} {cx : Ctx} (hT : TabOK P cx.T) {H : Prop} {im : Prop → Prop} (him : ∀ p, im p → H → p) {rh : Operand → AV} {L : List AB} {s : List (Nat × AB)} {o : Oper} {K : AV → List AB → Prop} (h : vop P cx im rh L s o.op K) :
    ∃ v new, (H → PJ2 P cx.G o rh L s v new) ∧ K v new := by
  have np : ∀ {op : Op}, o.op = op → (∀ c x y, op ≠ .pick c x y) → ∀ {v new}, (H → PJ P cx.G o rh L s v new) → (H → PJ2 P cx.G o rh L s v new) := by
    intro op he hn v new hp hH
    exact pj_cond (by rw [he]; exact hn) (hp hH)
  generalize hop : o.op = op at h
  cases op with
  | move x => exact ⟨_, _, np hop (by intros; simp) (fun _ => pj_move hop), h⟩
  | assign x => exact ⟨_, _, np hop (by intros; simp) (fun _ => pj_assign hop), h⟩
  | pick c x y =>
    simp only [vop] at h
    split at h <;> try exact h.elim
    rename_i p hc
    split at h <;> try exact h.elim
    · rename_i b1 h1
      split at h <;> try exact h.elim
      · rename_i b2 h2
        refine ⟨_, _, fun _ M F U w a hS hG hO => ?_, h⟩
        rw [hop] at hO
        simp only [Opn] at hO
        obtain ⟨q1, q2⟩ := hO
        obtain ⟨q3, q4⟩ := q2 p hc
        exact pj_pick hop hc M F U w a hS q1 (fun e => by rw [← h1]; exact q3 e) (fun e => by rw [← h2]; exact q4 e)
      · refine ⟨_, _, fun hH M F U w a hS hG hO => ?_, h.2⟩
        have hp := him _ h.1 hH
        subst hp
        rw [hop] at hO
        simp only [Opn] at hO
        obtain ⟨q1, q2⟩ := hO
        obtain ⟨q3, q4⟩ := q2 true hc
        exact pj_pick (b1 := b1) (b2 := b1) hop hc M F U w a hS q1 (fun e => by rw [← h1]; exact q3 e) (fun e => by cases e)
    · rename_i h1
      split at h <;> try exact h.elim
      rename_i b2 h2
      refine ⟨_, _, fun hH M F U w a hS hG hO => ?_, h.2⟩
      have hp := him _ h.1 hH
      subst hp
      rw [hop] at hO
      simp only [Opn] at hO
      obtain ⟨q1, q2⟩ := hO
      obtain ⟨q3, q4⟩ := q2 false hc
      exact pj_pick (b1 := b2) (b2 := b2) hop hc M F U w a hS q1 (fun e => by cases e) (fun e => by rw [← h2]; exact q4 e)
  | build t parts =>
    simp only [vop] at h
    split at h <;> try exact h.elim
    rename_i cs hcs
    exact ⟨_, _, np hop (by intros; simp) (fun _ => pj_build hT hop hcs), h⟩
  | binOp bop t x y ty =>
    simp only [vop] at h
    split at h
    · rename_i v hv
      exact ⟨_, _, np hop (by intros; simp) (fun _ => pj_bin hop hv), h⟩
    · have veq : ∀ {r}, veq1 cx.T t x y (rh x) (rh y) = some r → ∃ ti, cx.T t = some ti ∧ (isC x || isC y || (match ti.u with
          | .interface _ => false
          | _ => true)) = true ∧ veqv ti.u (rh x) (rh y) = some r := by
        intro r h
        unfold veq1 at h
        split at h <;> try cases h
        rename_i ti ht
        split at h <;> try cases h
        rename_i hc
        exact ⟨ti, ht, hc, h⟩
      split at h
      · split at h <;> try exact h.elim
        rename_i r hr
        obtain ⟨ti, ht, hc, hr⟩ := veq hr
        exact ⟨_, _, np hop (by intros; simp) (fun _ => pj_eqv hT ht hop hc hr (.inl ⟨rfl, rfl⟩)), h⟩
      · split at h <;> try exact h.elim
        rename_i r hr
        obtain ⟨ti, ht, hc, hr⟩ := veq hr
        exact ⟨_, _, np hop (by intros; simp) (fun _ => pj_eqv hT ht hop hc hr (.inr ⟨rfl, rfl⟩)), h⟩
      · split at h <;> try exact h.elim
        rename_i k a k' b h1 h2
        refine ⟨_, _, np hop (by intros; simp) (fun hH => ?_), h.2⟩
        obtain ⟨rfl, h0⟩ := him _ h.1 hH
        exact pj_div hop h1 h2 h0 (.inl ⟨rfl, rfl⟩)
      · split at h <;> try exact h.elim
        rename_i k a k' b h1 h2
        refine ⟨_, _, np hop (by intros; simp) (fun hH => ?_), h.2⟩
        obtain ⟨rfl, h0⟩ := him _ h.1 hH
        exact pj_div hop h1 h2 h0 (.inr ⟨rfl, rfl⟩)
      · exact h.elim
  | lookup t x k ok =>
    simp only [vop] at h
    split at h <;> try exact h.elim
    rename_i ti ht
    split at h <;> try exact h.elim
    rename_i kt et hu
    split at h <;> try exact h.elim
    rename_i c hk
    split at h <;> try exact h.elim
    rename_i te hte
    split at h <;> try exact h.elim
    rename_i kx hkx
    have hkx := dxOf_av hkx
    split at h <;> try exact h.elim
    · rename_i id hx
      split at h <;> try exact h.elim
      rename_i es hm
      obtain ⟨hs, r, hr, h⟩ := h
      exact ⟨_, _, np hop (by intros; simp) (fun hH => pj_lookup hT ht hu hk hte hs hop hx (sfind_mem hm) hkx (him _ hr hH).1 (him _ hr hH).2.1 (him _ hr hH).2.2), h⟩
    · rename_i hx
      obtain ⟨hr, h⟩ := h
      exact ⟨_, _, np hop (by intros; simp) (fun hH => pj_lookup_nil hT ht hu hk hte hop hx hkx (him _ hr hH)), h⟩
  | unOp uop t x =>
    simp only [vop] at h
    split at h
    · rename_i v hv
      exact ⟨_, _, np hop (by intros; simp) (fun _ => pj_un hop hv), h⟩
    · exact h.elim
  | extract x i =>
    simp only [vop] at h
    split at h <;> try exact h.elim
    rename_i vs hvs
    split at h <;> try exact h.elim
    rename_i v hv
    exact ⟨_, _, np hop (by intros; simp) (fun _ => pj_extract hop hvs hv), h⟩
  | makeFunc fn first caps =>
    cases fn with
    | func f =>
      simp only [vop] at h
      split at h <;> try exact h.elim
      rename_i hf
      have := arr_toList hf
      subst this
      exact ⟨_, _, np hop (by intros; simp) (fun _ => pj_makeFunc hop), h⟩
    | _ => exact (by simp [vop] at h)
  | load t x =>
    simp only [vop] at h
    split at h <;> try exact h.elim
    rename_i ti ht
    have key : ∀ {xs : List AV} {new : List AB}, new = [] → ld ti xs K → ∃ v, xs.length = ti.size ∧ ofCells ti.agg xs = some v ∧ K v new := by
      intro xs new hn hl
      unfold ld at hl
      split at hl <;> try exact hl.elim
      rename_i hb
      split at hl <;> try exact hl.elim
      rename_i v hv
      subst hn
      exact ⟨v, beq_t hb, hv, hl⟩
    split at h
    · rename_i k off hx
      split at h <;> try exact h.elim
      rename_i cs hk
      obtain ⟨v, h1, h2, h3⟩ := key rfl h
      exact ⟨_, _, np hop (by intros; simp) (fun _ => pj_load_cells hT ht hop hx (r := .l k) hk h1 h2), h3⟩
    · rename_i id off hx
      split at h <;> try exact h.elim
      rename_i cs hm
      obtain ⟨v, h1, h2, h3⟩ := key rfl h
      exact ⟨_, _, np hop (by intros; simp) (fun _ => pj_load_cells hT ht hop hx (r := .g id) (sfind_mem hm) h1 h2), h3⟩
    · rename_i cs off hx
      obtain ⟨v, h1, h2, h3⟩ := key rfl h
      exact ⟨_, _, np hop (by intros; simp) (fun _ => pj_load_ptr hT ht hop hx (by simpa using h1) h2), h3⟩
    · rename_i k sz i j hx
      split at h <;> try exact h.elim
      rename_i sz' rows hk
      obtain ⟨row, hr, rfl, h⟩ := h
      obtain ⟨v, h1, h2, h3⟩ := key rfl h
      exact ⟨_, _, np hop (by intros; simp) (fun hH => pj_load_row hT ht hop hx (r := .l k) hk (him _ hr hH) (by simpa using h1) h2), h3⟩
    · rename_i id sz i j hx
      split at h <;> try exact h.elim
      rename_i sz' rows hm
      obtain ⟨row, hr, rfl, h⟩ := h
      obtain ⟨v, h1, h2, h3⟩ := key rfl h
      exact ⟨_, _, np hop (by intros; simp) (fun hH => pj_load_row hT ht hop hx (r := .g id) (sfind_mem hm) (him _ hr hH) (by simpa using h1) h2), h3⟩
    · exact h.elim
  | fieldAddr t x f =>
    simp only [vop] at h
    split at h <;> try exact h.elim
    rename_i off hoff
    split at h <;> try exact h.elim
    rename_i v hv
    unfold vfld at hoff
    split at hoff <;> try (cases hoff; done)
    rename_i ti ht
    split at hoff <;> try (cases hoff; done)
    rename_i fs hfs
    split at hoff <;> try (cases hoff; done)
    rename_i fd hfd
    split at hoff <;> try (cases hoff; done)
    rename_i tf htf
    split at hoff <;> try (cases hoff; done)
    rename_i n hn
    cases hoff
    exact ⟨_, _, np hop (by intros; simp) (fun _ => pj_fieldAddr hT ht hfs hfd htf (by omega) hop hv), h⟩
  | indexAddr t x y =>
    simp only [vop] at h
    split at h <;> try exact h.elim
    rename_i te hte
    obtain ⟨ti, e, h1, h2, h3⟩ := velem_inv hte
    split at h <;> try exact h.elim
    rename_i k n hy
    split at h
    · rename_i sz rows hx
      split at h <;> try exact h.elim
      rename_i hsz
      have hsz := beq_t hsz
      obtain ⟨row, hr, h⟩ := h
      exact ⟨_, _, np hop (by intros; simp) (fun hH => pj_index_list hT h1 h2 h3 hop hx hy hsz (him _ hr hH).1 (him _ hr hH).2), h⟩
    · rename_i r sz off len hx
      split at h <;> try exact h.elim
      rename_i hsz
      have hsz := beq_t hsz
      obtain ⟨hr, h⟩ := h
      exact ⟨_, _, np hop (by intros; simp) (fun hH => pj_index_row hT h1 h2 h3 hop hx hy hsz (him _ hr hH).1 (him _ hr hH).2), h⟩
    · exact h.elim
  | slice t x lo hi mx =>
    simp only [vop] at h
    split at h <;> try exact h.elim
    rename_i te hte
    obtain ⟨ti, e, h1, h2, h3⟩ := velem_inv hte
    split at h <;> try exact h.elim
    · split at h <;> try exact h.elim
      rename_i l hl
      split at h <;> try exact h.elim
      · rename_i sz rows hx
        split at h <;> try exact h.elim
        rename_i hh hb
        have := beq_t hb
        subst this
        exact ⟨_, _, np hop (by intros; simp) (fun hH => pj_slice hT h1 h2 h3 hop (by simp only [hx]; exact ⟨trivial, hl, hh, (him _ h.1 hH).1, (him _ h.1 hH).2.1, (him _ h.1 hH).2.2, rfl⟩)), h.2⟩
      · rename_i hx
        split at h <;> try exact h.elim
        rename_i hh
        exact ⟨_, _, np hop (by intros; simp) (fun hH => pj_slice hT h1 h2 h3 hop (by simp only [hx]; exact ⟨hl, hh, (him _ h.1 hH).1, (him _ h.1 hH).2, trivial⟩)), h.2⟩
      · rename_i hx
        split at h <;> try exact h.elim
        rename_i hh
        exact ⟨_, _, np hop (by intros; simp) (fun hH => pj_slice hT h1 h2 h3 hop (by simp only [hx]; exact ⟨hl, hh, (him _ h.1 hH).1, (him _ h.1 hH).2, trivial⟩)), h.2⟩
      · rename_i r sz off len cap hx
        split at h <;> try exact h.elim
        rename_i hh hb
        have := beq_t hb
        subst this
        exact ⟨_, _, np hop (by intros; simp) (fun hH => pj_slice hT h1 h2 h3 hop (by simp only [hx]; exact ⟨trivial, hl, hh, (him _ h.1 hH).1, (him _ h.1 hH).2.1, (him _ h.1 hH).2.2, rfl⟩)), h.2⟩
    · split at h <;> try exact h.elim
      split at h <;> try exact h.elim
      rename_i hlo
      have hlo : lo = none ∨ ∃ k, lo = some (.const (.int k 0)) := by
        split at hlo
        · exact .inl rfl
        · exact .inr ⟨_, rfl⟩
        · cases hlo
      split at h <;> try exact h.elim
      · rename_i hx
        exact ⟨_, _, np hop (by intros; simp) (fun _ => by have := pj_slice0 (P := P) (G := cx.G) (L := L) (s := s) (rh := rh) hT h1 h2 h3 hlo hop (by simp only [hx]); simpa only [hx] using this), h⟩
      · rename_i hx
        exact ⟨_, _, np hop (by intros; simp) (fun _ => by have := pj_slice0 (P := P) (G := cx.G) (L := L) (s := s) (rh := rh) hT h1 h2 h3 hlo hop (by simp only [hx]); simpa only [hx] using this), h⟩
      · rename_i hx
        exact ⟨_, _, np hop (by intros; simp) (fun _ => by have := pj_slice0 (P := P) (G := cx.G) (L := L) (s := s) (rh := rh) hT h1 h2 h3 hlo hop (by simp only [hx]); simpa only [hx] using this), h⟩
      · rename_i hx
        exact ⟨_, _, np hop (by intros; simp) (fun _ => by have := pj_slice0 (P := P) (G := cx.G) (L := L) (s := s) (rh := rh) hT h1 h2 h3 hlo hop (by simp only [hx]); simpa only [hx] using this), h⟩
  | box t x =>
    simp only [vop] at h
    split at h <;> try exact h.elim
    rename_i hb
    exact ⟨_, _, np hop (by intros; simp) (fun _ => pj_box hop hb), by simpa only [fLen_eq, Nat.add_zero] using h⟩
  | alloc t =>
    simp only [vop] at h
    split at h <;> try exact h.elim
    rename_i ti ht
    exact ⟨_, _, np hop (by intros; simp) (fun _ => pj_alloc hT ht hop), by simpa only [fLen_eq, Nat.add_zero] using h⟩
  | buildSlice t len parts =>
    simp only [vop] at h
    split at h <;> try exact h.elim
    rename_i te hte
    obtain ⟨ti, e, h1, h2, h3⟩ := velem_inv hte
    split at h <;> try exact h.elim
    rename_i rows hrows
    split at h <;> try exact h.elim
    rename_i hb
    simp only [Bool.and_eq_true] at hb
    obtain ⟨⟨⟨b1, b2⟩, b3⟩, b4⟩ := hb
    have hp := fun _ : H => pj_lit (G := cx.G) (L := L) (s := s) (o := o) hT h1 h2 h3 hop (beq_t b1) b2 (Nat.le_of_ble_eq_true b3) hrows b4
    cases rows with
    | nil => exact ⟨_, _, np hop (by intros; simp) hp, h⟩
    | cons r rs => exact ⟨_, _, np hop (by intros; simp) hp, h⟩
  | nilCheck x =>
    simp only [vop] at h
    split at h <;> try exact h.elim
    rename_i hb
    refine ⟨_, _, np hop (by intros; simp) (fun _ => pj_nilCheck hop ?_), h⟩
    generalize rh x = y at hb ⊢
    cases y with
    | d z => cases z <;> first | exact True.intro | (cases hb; done)
    | _ => first | trivial | (cases hb)
  | call c =>
    simp only [vop] at h
    obtain ⟨callee, args, tys⟩ := c
    simp only at h
    split at h
    · split at h <;> try exact h.elim
      rename_i x hargs
      have hty : ∀ {b : Bool}, Nat.beq tys.size 1 = b → b = true → tys = #[tys.getD 0 0] := by
        intro b hsz hb
        subst hb
        have := beq_t hsz
        apply Array.ext
        · simp [this]
        · intro i hi1 hi2
          simp at hi2
          subst hi2
          simp [Array.getD_eq_getD_getElem?, Array.getElem?_eq_getElem hi1]
      have ha := arr_toList hargs
      subst ha
      split at h
      · rename_i te hte
        split at h <;> try exact h.elim
        rename_i n hn
        split at h <;> try exact h.elim
        rename_i hsz
        obtain ⟨ti, e, h1, h2, h3⟩ := velem_inv hte
        rw [hty hsz rfl] at hop
        exact ⟨_, _, np hop (by intros; simp) (fun _ => pj_len hT h1 h2 (ty := 0) hop rfl hn), h⟩
      · split at h <;> try exact h.elim
        rename_i ti ht
        split at h <;> try exact h.elim
        rename_i km em hu
        split at h <;> try exact h.elim
        rename_i n hn
        split at h <;> try exact h.elim
        rename_i hsz
        rw [hty hsz rfl] at hop
        exact ⟨_, _, np hop (by intros; simp) (fun _ => pj_mlen hT ht hu hop hn), h⟩
    · split at h <;> try exact h.elim
      rename_i x hargs
      have ha := arr_toList hargs
      subst ha
      split at h <;> try exact h.elim
      rename_i te hte
      split at h <;> try exact h.elim
      rename_i n hn
      split at h <;> try exact h.elim
      rename_i hsz
      obtain ⟨ti, e, h1, h2, h3⟩ := velem_inv hte
      have hty : tys = #[tys.getD 0 0] := by
        have := beq_t hsz
        apply Array.ext
        · simp [this]
        · intro i hi1 hi2
          simp at hi2
          subst hi2
          simp [Array.getD_eq_getD_getElem?, Array.getElem?_eq_getElem hi1]
      rw [hty] at hop
      exact ⟨_, _, np hop (by intros; simp) (fun _ => pj_cap hT h1 h2 hop hn), h⟩
    · split at h <;> try exact h.elim
      rename_i x y hargs
      have ha := arr_toList hargs
      subst ha
      split at h <;> try exact h.elim
      rename_i k a hx
      split at h <;> try exact h.elim
      rename_i k2 b hy
      exact ⟨_, _, np hop (by intros; simp) (fun _ => pj_min hop hx hy), h⟩
    · split at h <;> try exact h.elim
      rename_i x y hargs
      have ha := arr_toList hargs
      subst ha
      split at h <;> try exact h.elim
      rename_i k a hx
      split at h <;> try exact h.elim
      rename_i k2 b hy
      exact ⟨_, _, np hop (by intros; simp) (fun _ => pj_max hop hx hy), h⟩
    · split at h <;> try exact h.elim
      rename_i g caps hg
      rcases h with ⟨args', v, h1, h2⟩ | ⟨args', v, h1, h2⟩
      · exact ⟨_, _, np hop (by intros; simp) (fun hH => pj_call_lend hop hg (him _ h1 hH).1 (nr2 (him _ h1 hH).2.1).1 (nr2 (him _ h1 hH).2.1).2 (him _ h1 hH).2.2), h2⟩
      exact ⟨_, _, np hop (by intros; simp) (fun hH => pj_call hop hg (him _ h1 hH).1 (nr2 (him _ h1 hH).2.1).1 (nr2 (him _ h1 hH).2.1).2 (him _ h1 hH).2.2), h2⟩
    · exact h.elim
  | _ => exact (by simp [vop] at h)

end Go.Pv
