/- The framework, part 2: values, memory, verification conditions, walks; it states no property of the program. -/
import Derived.Test.YtgadgajhahfabaaDoorFrA
import Derived.Laws.StructEq
import Derived.MapKept
import Derived.Below
import Derived.LaidEql
import Derived.Deep.Upon
import Derived.Lib.AppendZerosOnto
import Derived.Lib.Overlaps
/- Keys of maps: integers, structs of integers. -/
namespace Go.Pv
open Go.RowKit

def flatF (T : Nat → Option TI) : List Field → Nat → Option (List IntKind)
  | [], _ => some []
  | f :: r, off => match Nat.beq f.offset off && !(f.name == "_") with
    | true => match T f.type with
      | some tf => match tf.u with
        | .int k => match flatF T r (off + 1) with
          | some ks => some (k :: ks)
          | none => none
        | _ => none
      | none => none
    | false => none
/-- A key's type: is it a struct, its integers' kinds. -/
def flatK (T : Nat → Option TI) (t : Nat) : Option (Bool × List IntKind) := match T t with
  | some ti => match ti.u with
    | .int k => some (false, [k])
    | .struct fs => match flatF T fs.toList 0 with
      | some ks => some (true, ks)
      | none => none
    | _ => none
  | none => none
def kmatch : List DV → List IntKind → Bool
  | [], [] => true
  | .int k _ :: r, k' :: r' => decide (k = k') && kmatch r r'
  | _, _ => false
def kgood (c : Bool × List IntKind) : DX → Bool
  | .one x => !c.1 && kmatch [x] c.2
  | .agg xs => c.1 && kmatch xs c.2
def cellv : DV → Value
  | .int k n => .int k n
  | _ => .nilIface
def kval : DX → Value
  | .one x => cellv x
  | .agg xs => .agg (xs.map cellv).toArray

section
variable {P : Program} {T : Nat → Option TI} {M : Mp} {F : Nat → Prop} {w : World}

theorem kmatch_len : ∀ {xs : List DV} {ks : List IntKind}, kmatch xs ks = true → xs.length = ks.length
  | [], [], _ => rfl
  | [], _ :: _, h => by simp [kmatch] at h
  | x :: r, [], h => by cases x <;> simp [kmatch] at h
  | x :: r, k' :: r', h => by
    cases x <;> simp [kmatch] at h
    simp [kmatch_len h.2]
theorem kmatch_at : ∀ {xs : List DV} {ks : List IntKind} {j : Nat} {k : IntKind}, kmatch xs ks = true → ks[j]? = some k → ∃ n, xs[j]? = some (.int k n)
  | [], [], j, k, _, hk => by simp at hk
  | [], _ :: _, _, _, h, _ => by simp [kmatch] at h
  | x :: r, [], _, _, h, _ => by cases x <;> simp [kmatch] at h
  | x :: r, k' :: r', j, k, h, hk => by
    cases x <;> simp [kmatch] at h
    rename_i k0 n
    obtain ⟨rfl, h⟩ := h
    cases j with
    | zero => simp at hk; subst hk; exact ⟨n, rfl⟩
    | succ j => simpa using kmatch_at h (by simpa using hk)
theorem kmatch_inj : ∀ {xs ys : List DV} {ks : List IntKind}, kmatch xs ks = true → kmatch ys ks = true → xs.map cellv = ys.map cellv → xs = ys
  | [], [], _, _, _, _ => rfl
  | [], _ :: _, _, _, _, h => by simp at h
  | _ :: _, [], _, _, _, h => by simp at h
  | x :: r, y :: r', [], h, _, _ => by cases x <;> simp [kmatch] at h
  | x :: r, y :: r', k :: ks, h1, h2, h => by
    cases x <;> simp [kmatch] at h1
    cases y <;> simp [kmatch] at h2
    simp [cellv] at h
    obtain ⟨⟨e1, e2⟩, h⟩ := h
    subst e1
    subst e2
    rw [kmatch_inj h1.2 h2.2 (by simpa using h)]
theorem kval_inj {c : Bool × List IntKind} {a b : DX} (ha : kgood c a = true) (hb : kgood c b = true) (h : kval a = kval b) : a = b := by
  obtain ⟨ag, ks⟩ := c
  cases a <;> cases b <;> simp only [kgood, Bool.and_eq_true, Bool.not_eq_true'] at ha hb
  · simp only [kval] at h
    have := kmatch_inj ha.2 hb.2 (by simp [h])
    simpa using this
  · rw [ha.1] at hb; cases hb.1
  · rw [ha.1] at hb; cases hb.1
  · simp only [kval, Value.agg.injEq] at h
    rw [kmatch_inj ha.2 hb.2 (by simpa using h)]
theorem kgood_val {c : Bool × List IntKind} {a : DX} {v : Value} (ha : kgood c a = true) (h : RV M F w a.av v) : v = kval a := by
  obtain ⟨ag, ks⟩ := c
  have cell : ∀ {x : DV} {k : IntKind} {n : Int} {v : Value}, x = .int k n → RV M F w (.d x) v → v = cellv x := fun e h => by subst e; rw [h.int_inv]; rfl
  cases a with
  | one x =>
    simp only [kgood, Bool.and_eq_true] at ha
    have hl := kmatch_len ha.2
    match ks, hl, ha.2 with
    | [k], _, hm =>
      obtain ⟨n, hn⟩ := kmatch_at hm (j := 0) rfl
      simp at hn
      exact cell hn h
  | agg xs =>
    simp only [kgood, Bool.and_eq_true] at ha
    simp only [DX.av] at h
    cases h with
    | agg cs vs hl h1 h =>
      simp only [kval, Value.agg.injEq]
      congr 1
      apply List.ext_getElem?
      intro j
      simp at hl
      cases hv : vs[j]? with
      | none =>
        rw [List.getElem?_map]
        have := List.getElem?_eq_none_iff.1 hv
        rw [List.getElem?_eq_none (by omega)]
        rfl
      | some v =>
        have hj := (List.getElem?_eq_some_iff.1 hv).1
        have hk := kmatch_len ha.2
        obtain ⟨n, hn⟩ := kmatch_at ha.2 (j := j) (k := ks[j]'(by omega)) (List.getElem?_eq_getElem (by omega))
        rw [List.getElem?_map, hn, Option.map_some, ← cell rfl (h j _ v (by rw [List.getElem?_map, hn]; rfl) hv)]

theorem flat_fields (hT : TabOK P T) {d : Nat} {xs ys : List DV} : ∀ {fs : List Field} {off : Nat} {ks : List IntKind}, flatF T fs off = some ks → kmatch (xs.drop off) ks = true → kmatch (ys.drop off) ks = true →
    ∃ r : Bool, (Op.eqFields (d + 1) (xs.map cellv).toArray (ys.map cellv).toArray fs).run P w = .ok r w ∧ (r = true ↔ xs.drop off = ys.drop off)
  | [], off, ks, h, h1, h2 => by
    simp only [flatF, Option.some.injEq] at h
    subst h
    have e1 := kmatch_len h1
    have e2 := kmatch_len h2
    refine ⟨true, rfl, ?_⟩
    have e3 : xs.drop off = [] := List.eq_nil_of_length_eq_zero e1
    have e4 : ys.drop off = [] := List.eq_nil_of_length_eq_zero e2
    rw [e3, e4]
    simp
  | f :: r, off, ks, h, h1, h2 => by
    simp only [flatF] at h
    split at h <;> try cases h
    rename_i hb
    simp only [Bool.and_eq_true, Bool.not_eq_true', beq_eq_false_iff_ne] at hb
    obtain ⟨hb1, hb2⟩ := hb
    have hb1 := Nat.eq_of_beq_eq_true hb1
    split at h <;> try cases h
    rename_i tf htf
    split at h <;> try cases h
    rename_i k hk
    split at h <;> cases h
    rename_i ks' hks
    obtain ⟨n, hn⟩ := kmatch_at h1 (j := 0) rfl
    obtain ⟨m, hm⟩ := kmatch_at h2 (j := 0) rfl
    rw [List.getElem?_drop, Nat.add_zero] at hn hm
    have hlx := (List.getElem?_eq_some_iff.1 hn).1
    have hly := (List.getElem?_eq_some_iff.1 hm).1
    have dx : xs.drop off = .int k n :: xs.drop (off + 1) := by
      rw [List.drop_eq_getElem_cons hlx]
      rw [List.getElem?_eq_getElem hlx] at hn
      rw [Option.some.inj hn]
    have dy : ys.drop off = .int k m :: ys.drop (off + 1) := by
      rw [List.drop_eq_getElem_cons hly]
      rw [List.getElem?_eq_getElem hly] at hm
      rw [Option.some.inj hm]
    rw [dx] at h1
    rw [dy] at h2
    simp only [kmatch, Bool.and_eq_true] at h1 h2
    obtain ⟨r1, hr1, hr2⟩ := flat_fields hT (d := d) (xs := xs) (ys := ys) hks h1.2 h2.2
    obtain ⟨hu, hag, _⟩ := hT f.type tf htf
    rw [hk] at hu hag
    have hagf : tf.agg = false := by
      cases ha : tf.agg with
      | false => rfl
      | true => simp [ha] at hag
    have part_ : ∀ (zs : List DV) (v : DV), zs[off]? = some v → (part f.type (zs.map cellv).toArray f.offset).run P w = .ok (cellv v) w := by
      intro zs v hz
      unfold part
      simp only [Sem.run_bind, run_isAgg' hT htf, Result.andThen_ok, hagf, Bool.false_eq_true, if_false, hb1, List.getElem?_toArray, List.getElem?_map, hz, Option.map_some]
      rfl
    refine ⟨n == m && r1, ?_, ?_⟩
    · simp only [Op.eqFields, if_pos hb2, Sem.run_bind, part_ xs _ hn, part_ ys _ hm, Result.andThen_ok, cellv, run_equalIn_int w d f.type k k n m hu]
      by_cases e : n = m
      · subst e
        simp [hr1]
      · have : (n == m) = false := by simpa using e
        simp [this, Sem.run_pure]
    · rw [dx, dy]
      simp only [Bool.and_eq_true, beq_iff_eq, List.cons.injEq, DV.int.injEq, true_and, hr2]

theorem flat_equal (hT : TabOK P T) {kt : Nat} {ks : List IntKind} (hk : flatK T kt = some (true, ks)) (hs : P.stoodInHeld kt = false) {xs ys : List DV} (h1 : kmatch xs ks = true) (h2 : kmatch ys ks = true) :
    ∃ r : Bool, (Op.equal kt (kval (.agg xs)) (kval (.agg ys))).run P w = .ok r w ∧ (r = true ↔ xs = ys) := by
  unfold flatK at hk
  split at hk <;> try cases hk
  rename_i ti ht
  split at hk <;> try cases hk
  rename_i fs hfs
  split at hk <;> cases hk
  rename_i hks
  have hu := (hT kt ti ht).1
  rw [hfs] at hu
  have hfo : P.underlying kt = some (.struct (P.fieldsOf kt)) := by
    unfold Program.fieldsOf
    rw [hu]
  have hff : P.fieldsOf kt = fs := by
    unfold Program.fieldsOf
    rw [hu]
  obtain ⟨r, hr1, hr2⟩ := flat_fields hT (w := w) (d := 9998) (xs := xs) (ys := ys) hks h1 h2
  refine ⟨r, ?_, by simpa using hr2⟩
  rw [show Op.equal kt (kval (.agg xs)) (kval (.agg ys)) = Op.equalIn (9999 + 1) kt (kval (.agg xs)) (kval (.agg ys)) from rfl]
  simp only [kval]
  rw [run_equalIn_struct w 9999 kt _ _ hfo hs, hff]
  exact hr1

theorem flat_inv (hT : TabOK P T) {kt : Nat} {c : Bool × List IntKind} (hk : flatK T kt = some c) : (∃ k, c = (false, [k]) ∧ P.underlying kt = some (.int k)) ∨ (∃ fs ks, c = (true, ks) ∧ P.underlying kt = some (.struct fs) ∧ flatF T fs.toList 0 = some ks) := by
  unfold flatK at hk
  split at hk <;> try cases hk
  rename_i ti ht
  have hu := (hT kt ti ht).1
  split at hk
  · rename_i k hti
    cases hk
    rw [hti] at hu
    exact .inl ⟨k, rfl, hu⟩
  · rename_i fs hti
    split at hk <;> cases hk
    rename_i ks hks
    rw [hti] at hu
    exact .inr ⟨fs, ks, rfl, hu, hks⟩
  · cases hk
theorem kgood_one {k : IntKind} {a : DX} (h : kgood (false, [k]) a = true) : ∃ n, a = .one (.int k n) := by
  cases a with
  | one x =>
    simp only [kgood, Bool.and_eq_true] at h
    obtain ⟨n, hn⟩ := kmatch_at h.2 (j := 0) rfl
    simp at hn
    exact ⟨n, by rw [hn]⟩
  | agg xs => simp [kgood] at h
theorem kgood_agg {ks : List IntKind} {a : DX} (h : kgood (true, ks) a = true) : ∃ xs, a = .agg xs ∧ kmatch xs ks = true := by
  cases a with
  | one x => simp [kgood] at h
  | agg xs =>
    simp only [kgood, Bool.and_eq_true] at h
    exact ⟨xs, rfl, h.2⟩

theorem flat_check (hT : TabOK P T) {kt : Nat} {c : Bool × List IntKind} (hk : flatK T kt = some c) {a : DX} (ha : kgood c a = true) (em : Bool) : (Instr.checkKey em 10000 kt (kval a)).run P w = .ok () w := by
  rw [show Instr.checkKey em 10000 kt (kval a) = Instr.checkKey em (9999 + 1) kt (kval a) from rfl]
  rcases flat_inv hT hk with ⟨k, rfl, hu⟩ | ⟨fs, ks, rfl, hu, hf⟩
  · obtain ⟨n, rfl⟩ := kgood_one ha
    generalize 9999 = d
    unfold Instr.checkKey
    simp only [Sem.run_bind, run_underlying' hu, Result.andThen_ok, kval, cellv]
    rfl
  · obtain ⟨xs, rfl, hm⟩ := kgood_agg ha
    have key : ∀ (d : Nat) (l : List Field) (off : Nat) (ks : List IntKind), flatF T l off = some ks → kmatch (xs.drop off) ks = true →
        (forIn l PUnit.unit (fun f _ => do
          if f.name ≠ "_" then do
            Instr.checkKey em (d + 1) f.type (← part f.type (xs.map cellv).toArray f.offset)
            pure (ForInStep.yield PUnit.unit)
          else pure (ForInStep.yield PUnit.unit)) : Sem PUnit).run P w = .ok PUnit.unit w := by
      intro d l
      induction l with
      | nil => intro off ks _ _; rfl
      | cons f r ih =>
        intro off ks h h1
        simp only [flatF] at h
        split at h <;> try cases h
        rename_i hb
        simp only [Bool.and_eq_true, Bool.not_eq_true', beq_eq_false_iff_ne] at hb
        obtain ⟨hb1, hb2⟩ := hb
        have hb1 := Nat.eq_of_beq_eq_true hb1
        split at h <;> try cases h
        rename_i tf htf
        split at h <;> try cases h
        rename_i k hk
        split at h <;> cases h
        rename_i ks' hks
        obtain ⟨n, hn⟩ := kmatch_at h1 (j := 0) rfl
        rw [List.getElem?_drop, Nat.add_zero] at hn
        have hlx := (List.getElem?_eq_some_iff.1 hn).1
        have dx : xs.drop off = .int k n :: xs.drop (off + 1) := by
          rw [List.drop_eq_getElem_cons hlx]
          rw [List.getElem?_eq_getElem hlx] at hn
          rw [Option.some.inj hn]
        rw [dx] at h1
        simp only [kmatch, Bool.and_eq_true] at h1
        obtain ⟨hu, hag, _⟩ := hT f.type tf htf
        rw [hk] at hu hag
        have hagf : tf.agg = false := by
          cases ha : tf.agg with
          | false => rfl
          | true => simp [ha] at hag
        have part_ : (part f.type (xs.map cellv).toArray f.offset).run P w = .ok (.int k n) w := by
          unfold part
          simp only [Sem.run_bind, run_isAgg' hT htf, Result.andThen_ok, hagf, Bool.false_eq_true, if_false, hb1, List.getElem?_toArray, List.getElem?_map, hn, Option.map_some]
          rfl
        have chk : (Instr.checkKey em (d + 1) f.type (.int k n)).run P w = .ok () w := by
          unfold Instr.checkKey
          simp only [Sem.run_bind, run_underlying' hu, Result.andThen_ok]
          rfl
        simp only [List.forIn_cons, Sem.run_bind, if_pos hb2, part_, chk, Result.andThen_ok, Sem.run_pure]
        exact ih (off + 1) ks' hks h1.2
    unfold Instr.checkKey
    simp only [Sem.run_bind, run_underlying' hu, Result.andThen_ok, kval]
    rw [← Array.forIn_toList]
    have := key 9998 fs.toList 0 ks hf (by simpa using hm)
    erw [this]
    rfl

theorem flat_find (hT : TabOK P T) {kt : Nat} {c : Bool × List IntKind} (hk : flatK T kt = some c) (hs : P.stoodInHeld kt = false) {a : DX} (ha : kgood c a = true) (es : List MapEntry) (ds : List DX) (hlen : es.length = ds.length)
    (hes : ∀ (i : Nat) (e : MapEntry) (d : DX), es[i]? = some e → ds[i]? = some d → e.key = kval d ∧ kgood c d = true) :
    ((Instr.findKey kt (kval a) es).run P w = .ok none w ∧ ∀ d ∈ ds, d ≠ a) ∨ ∃ (j : Nat) (e : MapEntry), (Instr.findKey kt (kval a) es).run P w = .ok (some (j, e.val)) w ∧ es[j]? = some e ∧ ds[j]? = some a := by
  rcases flat_inv hT hk with ⟨k, rfl, hu⟩ | ⟨fs, ks, rfl, hu, hf⟩
  · obtain ⟨n, rfl⟩ := kgood_one ha
    have key : ∀ (es : List MapEntry) (ds : List DX) (i0 : Nat), es.length = ds.length → (∀ (i : Nat) (e : MapEntry) (d : DX), es[i]? = some e → ds[i]? = some d → e.key = kval d ∧ kgood (false, [k]) d = true) →
        (Instr.findNow (.int k) (.int k n) es i0 = some none ∧ ∀ d ∈ ds, d ≠ .one (.int k n)) ∨ ∃ (j : Nat) (e : MapEntry), Instr.findNow (.int k) (.int k n) es i0 = some (some (i0 + j, e.val)) ∧ es[j]? = some e ∧ ds[j]? = some (.one (.int k n)) := by
      intro es
      induction es with
      | nil =>
        intro ds i0 hl _
        have : ds = [] := List.eq_nil_of_length_eq_zero hl.symm
        subst this
        exact .inl ⟨rfl, by simp⟩
      | cons e r ih =>
        intro ds i0 hl h
        match ds, hl with
        | d :: dr, hl =>
          obtain ⟨h1, h2⟩ := h 0 e d rfl rfl
          obtain ⟨m, rfl⟩ := kgood_one h2
          by_cases hnm : n = m
          · subst hnm
            refine .inr ⟨0, e, ?_, rfl, rfl⟩
            simp [Instr.findNow, h1, kval, cellv, Instr.sameNow]
          · have hbe : (n == m) = false := by simpa using hnm
            have step : Instr.findNow (.int k) (.int k n) (e :: r) i0 = Instr.findNow (.int k) (.int k n) r (i0 + 1) := by
              simp only [Instr.findNow, h1, kval, cellv, Instr.sameNow, if_true, hbe]
            rcases ih dr (i0 + 1) (by simpa using hl) (fun i e d he hd => h (i + 1) e d (by simpa using he) (by simpa using hd)) with ⟨q1, q2⟩ | ⟨j, e', q1, q2, q3⟩
            · refine .inl ⟨?_, fun d hd => ?_⟩
              · rw [step, q1]
              · rcases List.mem_cons.1 hd with rfl | hd
                · intro e; cases e; exact hnm rfl
                · exact q2 d hd
            · refine .inr ⟨j + 1, e', ?_, by simpa using q2, by simpa using q3⟩
              rw [step, q1, Nat.add_assoc, Nat.add_comm 1 j]
    unfold Instr.findKey
    simp only [Sem.run_bind, run_underlying' hu, Result.andThen_ok, kval, cellv]
    rcases key es ds 0 hlen hes with ⟨q1, q2⟩ | ⟨j, e, q1, q2, q3⟩
    · rw [q1]
      exact .inl ⟨rfl, q2⟩
    · rw [q1]
      exact .inr ⟨j, e, by simp [Sem.run_pure], q2, q3⟩
  · obtain ⟨xs, rfl, hm⟩ := kgood_agg ha
    have key : ∀ (es : List MapEntry) (ds : List DX) (i0 : Nat), es.length = ds.length → (∀ (i : Nat) (e : MapEntry) (d : DX), es[i]? = some e → ds[i]? = some d → e.key = kval d ∧ kgood (true, ks) d = true) →
        ((Instr.findAsking kt (kval (.agg xs)) es i0).run P w = .ok none w ∧ ∀ d ∈ ds, d ≠ .agg xs) ∨ ∃ (j : Nat) (e : MapEntry), (Instr.findAsking kt (kval (.agg xs)) es i0).run P w = .ok (some (i0 + j, e.val)) w ∧ es[j]? = some e ∧ ds[j]? = some (.agg xs) := by
      intro es
      induction es with
      | nil =>
        intro ds i0 hl _
        have : ds = [] := List.eq_nil_of_length_eq_zero hl.symm
        subst this
        exact .inl ⟨rfl, by simp⟩
      | cons e r ih =>
        intro ds i0 hl h
        match ds, hl with
        | d :: dr, hl =>
          obtain ⟨h1, h2⟩ := h 0 e d rfl rfl
          obtain ⟨ys, rfl, hy⟩ := kgood_agg h2
          obtain ⟨b, hb1, hb2⟩ := flat_equal hT (w := w) hk hs hm hy
          cases b with
          | true =>
            refine .inr ⟨0, e, ?_, rfl, by rw [hb2.1 rfl]; rfl⟩
            simp only [Instr.findAsking, Sem.run_bind, h1, hb1, Result.andThen_ok, if_true, Sem.run_pure, Nat.add_zero]
          | false =>
            have hne : xs ≠ ys := fun e => by have := hb2.2 e; cases this
            have step : (Instr.findAsking kt (kval (.agg xs)) (e :: r) i0).run P w = (Instr.findAsking kt (kval (.agg xs)) r (i0 + 1)).run P w := by
              simp only [Instr.findAsking, Sem.run_bind, h1, hb1, Result.andThen_ok, Bool.false_eq_true, if_false]
            rcases ih dr (i0 + 1) (by simpa using hl) (fun i e d he hd => h (i + 1) e d (by simpa using he) (by simpa using hd)) with ⟨q1, q2⟩ | ⟨j, e', q1, q2, q3⟩
            · refine .inl ⟨by rw [step, q1], fun d hd => ?_⟩
              rcases List.mem_cons.1 hd with rfl | hd
              · intro e; cases e; exact hne rfl
              · exact q2 d hd
            · refine .inr ⟨j + 1, e', ?_, by simpa using q2, by simpa using q3⟩
              rw [step, q1, Nat.add_assoc, Nat.add_comm 1 j]
    unfold Instr.findKey
    simp only [Sem.run_bind, run_underlying' hu, Result.andThen_ok]
    cases es with
    | nil =>
      have : ds = [] := List.eq_nil_of_length_eq_zero hlen.symm
      subst this
      exact .inl ⟨rfl, by simp⟩
    | cons e r =>
      have hnow : Instr.findNow (.struct fs) (kval (.agg xs)) (e :: r) 0 = none := by
        simp [Instr.findNow, Instr.sameNow]
      rw [hnow]
      rcases key (e :: r) ds 0 hlen hes with ⟨q1, q2⟩ | ⟨j, e', q1, q2, q3⟩
      · exact .inl ⟨q1, q2⟩
      · exact .inr ⟨j, e', by simpa using q1, q2, q3⟩

theorem kval_bits {c : Bool × List IntKind} {a : DX} (ha : kgood c a = true) : Instr.sameBits 10000 (kval a) (kval a) = true := by
  have cell : ∀ (d : Nat) (k : IntKind) (n : Int), Instr.sameBits d (.int k n) (.int k n) = true := fun d k n => by
    cases d <;> simp [Instr.sameBits]
  obtain ⟨ag, ks⟩ := c
  cases a with
  | one x =>
    simp only [kgood, Bool.and_eq_true] at ha
    have hl := kmatch_len ha.2
    match ks, hl, ha.2 with
    | [k], _, hm =>
      obtain ⟨n, hn⟩ := kmatch_at hm (j := 0) rfl
      simp at hn
      subst hn
      exact cell _ k n
  | agg xs =>
    simp only [kgood, Bool.and_eq_true] at ha
    rw [show Instr.sameBits 10000 (kval (.agg xs)) (kval (.agg xs)) = Instr.sameBits (9999 + 1) (kval (.agg xs)) (kval (.agg xs)) from rfl]
    generalize 9999 = d
    simp only [kval, Instr.sameBits, beq_self_eq_true, Bool.true_and, List.all_eq_true]
    rintro ⟨u, v⟩ huv
    obtain ⟨j, hj⟩ := List.mem_iff_getElem?.1 huv
    rw [List.getElem?_zip_eq_some] at hj
    obtain ⟨h1, h2⟩ := hj
    rw [h1] at h2
    cases h2
    simp only [List.getElem?_map] at h1
    obtain ⟨x, hx, rfl⟩ := Option.map_eq_some_iff.1 h1
    have hlt := (List.getElem?_eq_some_iff.1 hx).1
    have hl := kmatch_len ha.2
    obtain ⟨n, hn⟩ := kmatch_at ha.2 (j := j) (k := ks[j]'(by omega)) (List.getElem?_eq_getElem (by omega))
    rw [hx] at hn
    cases hn
    exact cell d _ n
end
end Go.Pv
/- Structs of integers, nested ones too: alike or not; as keys of maps. -/
namespace Go.Pv
open Go.RowKit

def flatG (g : Nat → Option (List IntKind)) : List Field → Nat → Option (List IntKind)
  | [], _ => some []
  | f :: r, off => match Nat.beq f.offset off && !(f.name == "_") with
    | true => match g f.type with
      | some ks => match flatG g r (off + ks.length) with
        | some ks' => some (ks ++ ks')
        | none => none
      | none => none
    | false => none
/-- The integers of a type that holds nothing else. -/
def flatS (T : Nat → Option TI) : Nat → Nat → Option (List IntKind)
  | 0, _ => none
  | n + 1, t => match T t with
    | some ti => match ti.u with
      | .int k => match ti.agg with
        | false => some [k]
        | true => none
      | .struct fs => match flatG (flatS T n) fs.toList 0 with
        | some ks => match ti.agg && Nat.beq ti.size ks.length with
          | true => some ks
          | false => none
        | none => none
      | _ => none
    | none => none
/-- None of its structs is stood in for. -/
def heldS (P : Program) (T : Nat → Option TI) : Nat → Nat → Bool
  | 0, _ => true
  | n + 1, t => match T t with
    | some ti => match ti.u with
      | .struct fs => !P.stoodInHeld t && fs.toList.all fun f => heldS P T n f.type
      | _ => true
    | none => true
def vS (ag : Bool) (xs : List DV) : Value := match ag with
  | true => .agg (xs.map cellv).toArray
  | false => match xs with
    | x :: _ => cellv x
    | [] => .nilIface
/-- Row by row. -/
def eqL : List DV → List DV → Bool
  | [], _ => true
  | _, [] => true
  | .int _ n :: r, .int _ m :: r' => match r with
    | [] => n == m
    | _ :: _ => bif n == m then eqL r r' else false
  | _, _ => false
section
variable {P : Program} {T : Nat → Option TI} {M : Mp} {F : Nat → Prop} {w : World}
theorem kmatch_split : ∀ {ks ks' : List IntKind} {zs : List DV}, kmatch zs (ks ++ ks') = true → kmatch (zs.take ks.length) ks = true ∧ kmatch (zs.drop ks.length) ks' = true
  | [], _, zs, h => by simpa [kmatch] using h
  | k :: ks, ks', [], h => by simp [kmatch] at h
  | k :: ks, ks', x :: zs, h => by
    cases x <;> simp [kmatch] at h
    obtain ⟨h1, h2⟩ := kmatch_split h.2
    simp only [List.length_cons, List.take_succ_cons, List.drop_succ_cons, kmatch, Bool.and_eq_true, decide_eq_true_eq]
    exact ⟨⟨h.1, h1⟩, h2⟩
theorem eqL_iff : ∀ {xs ys : List DV} {ks : List IntKind}, kmatch xs ks = true → kmatch ys ks = true → (eqL xs ys = true ↔ xs = ys)
  | [], [], _, _, _ => by simp [eqL]
  | [], _ :: _, [], _, h => by rename_i y _; cases y <;> simp [kmatch] at h
  | [], _ :: _, _ :: _, h, _ => by simp [kmatch] at h
  | _ :: _, [], [], h, _ => by rename_i y _; cases y <;> simp [kmatch] at h
  | _ :: _, [], _ :: _, _, h => by simp [kmatch] at h
  | x :: r, y :: r', [], h, _ => by cases x <;> simp [kmatch] at h
  | x :: r, y :: r', k :: ks, h1, h2 => by
    cases x <;> simp [kmatch] at h1
    cases y <;> simp [kmatch] at h2
    obtain ⟨e1, h1⟩ := h1
    obtain ⟨e2, h2⟩ := h2
    subst e1
    subst e2
    have ih := eqL_iff h1 h2
    rename_i n k2 m
    cases r with
    | nil =>
      have : r' = [] := by
        have l1 := kmatch_len h1
        have l2 := kmatch_len h2
        exact List.eq_nil_of_length_eq_zero (by rw [l2, ← l1]; rfl)
      subst this
      simp [eqL]
    | cons a r =>
      simp only [eqL]
      by_cases e : n = m
      · subst e; simp [ih]
      · have : (n == m) = false := by simpa using e
        simp [this, e]
theorem flatG_eq (hT : TabOK P T) {n d : Nat} (IH : ∀ t ti ks, T t = some ti → flatS T n t = some ks → heldS P T n t = true → ∀ xs ys, kmatch xs ks = true → kmatch ys ks = true →
      (ti.agg = true → ti.size = ks.length) ∧ (ti.agg = false → ks.length = 1) ∧ ∃ r : Bool, (Op.equalIn (d + n) t (vS ti.agg xs) (vS ti.agg ys)).run P w = .ok r w ∧ (r = true ↔ xs = ys)) (hI : ∀ t ks, flatS T n t = some ks → ∃ ti, T t = some ti) {xs ys : List DV} :
    ∀ {fs : List Field} {off : Nat} {ks : List IntKind}, flatG (flatS T n) fs off = some ks → (∀ f ∈ fs, heldS P T n f.type = true) → kmatch (xs.drop off) ks = true → kmatch (ys.drop off) ks = true →
    ∃ r : Bool, (Op.eqFields (d + n) (xs.map cellv).toArray (ys.map cellv).toArray fs).run P w = .ok r w ∧ (r = true ↔ xs.drop off = ys.drop off)
  | [], off, ks, h, _, h1, h2 => by
    simp only [flatG, Option.some.injEq] at h
    subst h
    have e3 : xs.drop off = [] := List.eq_nil_of_length_eq_zero (kmatch_len h1)
    have e4 : ys.drop off = [] := List.eq_nil_of_length_eq_zero (kmatch_len h2)
    exact ⟨true, rfl, by rw [e3, e4]; simp⟩
  | f :: r, off, ks, h, hh, h1, h2 => by
    simp only [flatG] at h
    split at h <;> try cases h
    rename_i hb
    simp only [Bool.and_eq_true, Bool.not_eq_true', beq_eq_false_iff_ne] at hb
    obtain ⟨hb1, hb2⟩ := hb
    have hb1 := Nat.eq_of_beq_eq_true hb1
    split at h <;> try cases h
    rename_i ks1 hk1
    split at h <;> cases h
    rename_i ks2 hk2
    obtain ⟨tf, htf⟩ := hI _ _ hk1
    obtain ⟨x1, x2⟩ := kmatch_split h1
    obtain ⟨y1, y2⟩ := kmatch_split h2
    rw [List.drop_drop] at x2 y2
    obtain ⟨ha, hna, r1, hr1, hr2⟩ := IH f.type tf ks1 htf hk1 (hh f (List.mem_cons_self ..)) _ _ x1 y1
    obtain ⟨r2, hs1, hs2⟩ := flatG_eq hT IH hI (xs := xs) (ys := ys) hk2 (fun g hg => hh g (List.mem_cons_of_mem _ hg)) x2 y2
    obtain ⟨hu, hag, i, _, _, hi, hsz, _⟩ := hT f.type tf htf
    have part_ : ∀ (zs : List DV), kmatch ((zs.drop off).take ks1.length) ks1 = true → (part f.type (zs.map cellv).toArray f.offset).run P w = .ok (vS tf.agg ((zs.drop off).take ks1.length)) w := by
      intro zs hz
      unfold part
      simp only [Sem.run_bind, run_isAgg' hT htf, Result.andThen_ok]
      cases hag2 : tf.agg with
      | true =>
        simp only [if_true, Sem.run_bind, run_sizeOf' hi, Result.andThen_ok, Sem.run_pure, vS, hsz, ha hag2, hb1]
        congr 2
        apply Array.ext'
        simp [List.map_take, List.map_drop]
      | false =>
        have hl := kmatch_len hz
        rw [hna hag2] at hl ⊢
        rw [hna hag2] at hz
        match hzz : (zs.drop off).take 1, hl with
        | [v], _ =>
          have : zs[off]? = some v := by
            have h5 := congrArg (fun l => l[0]?) hzz
            simpa [List.getElem?_take, List.getElem?_drop] using h5
          simp only [Bool.false_eq_true, if_false, hb1, List.getElem?_toArray, List.getElem?_map, this, Option.map_some]
          rfl
    refine ⟨r1 && r2, ?_, ?_⟩
    · simp only [Op.eqFields, if_pos hb2, Sem.run_bind, part_ xs x1, part_ ys y1, Result.andThen_ok, hr1]
      cases r1 with
      | true => simpa using hs1
      | false => simp [Sem.run_pure]
    · rw [Bool.and_eq_true, hr2, hs2]
      constructor
      · rintro ⟨e1, e2⟩
        rw [← List.take_append_drop ks1.length (xs.drop off), ← List.take_append_drop ks1.length (ys.drop off), List.drop_drop, List.drop_drop, e1, e2]
      · intro e
        rw [← List.drop_drop, ← List.drop_drop, e]
        exact ⟨rfl, rfl⟩
theorem flatS_tab {n t : Nat} {ks : List IntKind} (h : flatS T n t = some ks) : ∃ ti, T t = some ti := by
  cases n with
  | zero => cases h
  | succ n =>
    simp only [flatS] at h
    split at h
    · rename_i ti ht; exact ⟨ti, ht⟩
    · cases h
theorem flatS_eq (hT : TabOK P T) (d : Nat) : ∀ (n t : Nat) (ti : TI) (ks : List IntKind), T t = some ti → flatS T n t = some ks → heldS P T n t = true → ∀ xs ys, kmatch xs ks = true → kmatch ys ks = true →
      (ti.agg = true → ti.size = ks.length) ∧ (ti.agg = false → ks.length = 1) ∧ ∃ r : Bool, (Op.equalIn (d + n) t (vS ti.agg xs) (vS ti.agg ys)).run P w = .ok r w ∧ (r = true ↔ xs = ys)
  | 0, _, _, _, _, h, _ => by cases h
  | n + 1, t, ti, ks, ht, h, hh => by
    intro xs ys h1 h2
    simp only [flatS, ht] at h
    simp only [heldS, ht] at hh
    have hu := (hT t ti ht).1
    split at h
    · rename_i k hk
      split at h <;> cases h
      rename_i hag
      rw [hk] at hu
      obtain ⟨a, ha⟩ := kmatch_at h1 (j := 0) rfl
      obtain ⟨b, hb⟩ := kmatch_at h2 (j := 0) rfl
      have l1 := kmatch_len h1
      have l2 := kmatch_len h2
      match xs, ys, l1, l2 with
      | [x], [y], _, _ =>
        cases ha
        cases hb
        refine ⟨by simp [hag], fun _ => rfl, a == b, ?_, by simp⟩
        rw [hag]
        simp only [vS, cellv]
        exact run_equalIn_int w (d + n) t k k a b hu
    · rename_i fs hfs
      split at h <;> try cases h
      rename_i ks' hks
      split at h <;> cases h
      rename_i hb
      simp only [Bool.and_eq_true] at hb
      have hsz := Nat.eq_of_beq_eq_true hb.2
      rw [hfs] at hu hh
      simp only [Bool.and_eq_true, Bool.not_eq_true', List.all_eq_true] at hh
      have hff : P.fieldsOf t = fs := by
        unfold Program.fieldsOf
        rw [hu]
      have hfo : P.underlying t = some (.struct (P.fieldsOf t)) := by rw [hff, hu]
      refine ⟨fun _ => hsz, fun e => absurd hb.1 (by simp [e]), ?_⟩
      obtain ⟨r, hr1, hr2⟩ := flatG_eq hT (d := d) (flatS_eq hT d n) (fun _ _ h => flatS_tab h) (xs := xs) (ys := ys) (off := 0) hks hh.2 h1 h2
      refine ⟨r, ?_, by simpa using hr2⟩
      rw [hb.1]
      simp only [vS]
      rw [show d + (n + 1) = (d + n) + 1 from rfl, run_equalIn_struct w (d + n) t _ _ hfo hh.1, hff]
      exact hr1
    · cases h
end
section
variable {P : Program} {T : Nat → Option TI} {M : Mp} {F : Nat → Prop} {w : World}
theorem flatG_check (hT : TabOK P T) {n d : Nat} {em : Bool} (IH : ∀ t ti ks, T t = some ti → flatS T n t = some ks → ∀ xs, kmatch xs ks = true →
      (ti.agg = true → ti.size = ks.length) ∧ (ti.agg = false → ks.length = 1) ∧ (Instr.checkKey em (d + n) t (vS ti.agg xs)).run P w = .ok () w) {xs : List DV} :
    ∀ {fs : List Field} {off : Nat} {ks : List IntKind}, flatG (flatS T n) fs off = some ks → kmatch (xs.drop off) ks = true →
    (forIn fs PUnit.unit (fun f _ => do
          if f.name ≠ "_" then do
            Instr.checkKey em (d + n) f.type (← part f.type (xs.map cellv).toArray f.offset)
            pure (ForInStep.yield PUnit.unit)
          else pure (ForInStep.yield PUnit.unit)) : Sem PUnit).run P w = .ok PUnit.unit w
  | [], off, ks, h, h1 => rfl
  | f :: r, off, ks, h, h1 => by
    simp only [flatG] at h
    split at h <;> try cases h
    rename_i hb
    simp only [Bool.and_eq_true, Bool.not_eq_true', beq_eq_false_iff_ne] at hb
    obtain ⟨hb1, hb2⟩ := hb
    have hb1 := Nat.eq_of_beq_eq_true hb1
    split at h <;> try cases h
    rename_i ks1 hk1
    split at h <;> cases h
    rename_i ks2 hk2
    obtain ⟨tf, htf⟩ := flatS_tab hk1
    obtain ⟨x1, x2⟩ := kmatch_split h1
    rw [List.drop_drop] at x2
    obtain ⟨ha, hna, chk⟩ := IH f.type tf ks1 htf hk1 _ x1
    have ih := flatG_check hT IH (xs := xs) hk2 x2
    obtain ⟨hu, hag, i, _, _, hi, hsz, _⟩ := hT f.type tf htf
    have part_ : (part f.type (xs.map cellv).toArray f.offset).run P w = .ok (vS tf.agg ((xs.drop off).take ks1.length)) w := by
      unfold part
      simp only [Sem.run_bind, run_isAgg' hT htf, Result.andThen_ok]
      cases hag2 : tf.agg with
      | true =>
        simp only [if_true, Sem.run_bind, run_sizeOf' hi, Result.andThen_ok, Sem.run_pure, vS, hsz, ha hag2, hb1]
        congr 2
        apply Array.ext'
        simp [List.map_take, List.map_drop]
      | false =>
        have hl := kmatch_len x1
        rw [hna hag2] at hl ⊢
        match hzz : (xs.drop off).take 1, hl with
        | [v], _ =>
          have : xs[off]? = some v := by
            have h5 := congrArg (fun l => l[0]?) hzz
            simpa [List.getElem?_take, List.getElem?_drop] using h5
          simp only [Bool.false_eq_true, if_false, hb1, List.getElem?_toArray, List.getElem?_map, this, Option.map_some]
          rfl
    simp only [List.forIn_cons, Sem.run_bind, if_pos hb2, part_, chk, Result.andThen_ok, Sem.run_pure]
    exact ih
theorem flatS_check (hT : TabOK P T) (d : Nat) (em : Bool) : ∀ (n t : Nat) (ti : TI) (ks : List IntKind), T t = some ti → flatS T n t = some ks → ∀ xs, kmatch xs ks = true →
      (ti.agg = true → ti.size = ks.length) ∧ (ti.agg = false → ks.length = 1) ∧ (Instr.checkKey em (d + n) t (vS ti.agg xs)).run P w = .ok () w
  | 0, _, _, _, _, h => by cases h
  | n + 1, t, ti, ks, ht, h => by
    intro xs h1
    simp only [flatS, ht] at h
    have hu := (hT t ti ht).1
    split at h
    · rename_i k hk
      split at h <;> cases h
      rename_i hag
      rw [hk] at hu
      obtain ⟨a, ha⟩ := kmatch_at h1 (j := 0) rfl
      have l1 := kmatch_len h1
      match xs, l1 with
      | [x], _ =>
        cases ha
        refine ⟨by simp [hag], fun _ => rfl, ?_⟩
        rw [hag]
        simp only [vS, cellv]
        rw [show d + (n + 1) = (d + n) + 1 from rfl]
        unfold Instr.checkKey
        simp only [Sem.run_bind, run_underlying' hu, Result.andThen_ok]
        rfl
    · rename_i fs hfs
      split at h <;> try cases h
      rename_i ks' hks
      split at h <;> cases h
      rename_i hb
      simp only [Bool.and_eq_true] at hb
      have hsz := Nat.eq_of_beq_eq_true hb.2
      rw [hfs] at hu
      refine ⟨fun _ => hsz, fun e => absurd hb.1 (by simp [e]), ?_⟩
      rw [hb.1]
      simp only [vS]
      rw [show d + (n + 1) = (d + n) + 1 from rfl]
      unfold Instr.checkKey
      simp only [Sem.run_bind, run_underlying' hu, Result.andThen_ok]
      rw [← Array.forIn_toList]
      have := flatG_check hT (d := d) (em := em) (flatS_check hT d em n) (xs := xs) (off := 0) hks h1
      erw [this]
      rfl
    · cases h
/-- A key's type: is it nested, is it a struct, its integers' kinds. -/
def keyK (T : Nat → Option TI) (t : Nat) : Option (Bool × Bool × List IntKind) := match flatK T t with
  | some c => some (false, c)
  | none => match T t with
    | some ti => match ti.agg with
      | true => match flatS T 8 t with
        | some ks => some (true, true, ks)
        | none => none
      | false => none
    | none => none
def keyH (P : Program) (T : Nat → Option TI) (t : Nat) : Bool → Prop
  | false => P.stoodInHeld t = false
  | true => heldS P T 8 t = true
theorem keyK_get {t : Nat} {nb : Bool} {c : Bool × List IntKind} (h : keyK T t = some (nb, c)) : (nb = false ∧ flatK T t = some c) ∨ (nb = true ∧ ∃ ti ks, T t = some ti ∧ ti.agg = true ∧ flatS T 8 t = some ks ∧ c = (true, ks)) := by
  unfold keyK at h
  split at h
  · rename_i c' hc
    cases h
    exact .inl ⟨rfl, hc⟩
  · split at h <;> try cases h
    rename_i ti ht
    split at h <;> try cases h
    rename_i ha
    split at h <;> cases h
    rename_i ks hks
    exact .inr ⟨rfl, ti, ks, ht, ha, hks, rfl⟩
theorem key_check (hT : TabOK P T) {kt : Nat} {nb : Bool} {c : Bool × List IntKind} (hk : keyK T kt = some (nb, c)) {a : DX} (ha : kgood c a = true) (em : Bool) : (Instr.checkKey em 10000 kt (kval a)).run P w = .ok () w := by
  rcases keyK_get hk with ⟨_, hk⟩ | ⟨_, ti, ks, ht, hag, hks, rfl⟩
  · exact flat_check hT hk ha em
  · obtain ⟨xs, rfl, hm⟩ := kgood_agg ha
    have := (flatS_check hT (w := w) 9992 em 8 kt ti ks ht hks xs hm).2.2
    rw [hag] at this
    exact this
theorem key_nil (hT : TabOK P T) {kt : Nat} {nb : Bool} {c : Bool × List IntKind} (hk : keyK T kt = some (nb, c)) (a : DX) : (Instr.findKey kt (kval a) []).run P w = .ok none w := by
  obtain ⟨u, hu⟩ : ∃ u, P.underlying kt = some u := by
    rcases keyK_get hk with ⟨_, hk⟩ | ⟨_, ti, ks, ht, _⟩
    · rcases flat_inv hT hk with ⟨k, _, hu⟩ | ⟨fs, ks, _, hu, _⟩ <;> exact ⟨_, hu⟩
    · exact ⟨_, (hT kt ti ht).1⟩
  unfold Instr.findKey
  simp only [Sem.run_bind, run_underlying' hu, Result.andThen_ok]
  rfl
theorem key_find (hT : TabOK P T) {kt : Nat} {nb : Bool} {c : Bool × List IntKind} (hk : keyK T kt = some (nb, c)) (hs : keyH P T kt nb) {a : DX} (ha : kgood c a = true) (es : List MapEntry) (ds : List DX) (hlen : es.length = ds.length)
    (hes : ∀ (i : Nat) (e : MapEntry) (d : DX), es[i]? = some e → ds[i]? = some d → e.key = kval d ∧ kgood c d = true) :
    ((Instr.findKey kt (kval a) es).run P w = .ok none w ∧ ∀ d ∈ ds, d ≠ a) ∨ ∃ (j : Nat) (e : MapEntry), (Instr.findKey kt (kval a) es).run P w = .ok (some (j, e.val)) w ∧ es[j]? = some e ∧ ds[j]? = some a := by
  rcases keyK_get hk with ⟨rfl, hk2⟩ | ⟨rfl, ti, ks, ht, hag, hks, rfl⟩
  · exact flat_find hT hk2 hs ha es ds hlen hes
  · obtain ⟨xs, rfl, hm⟩ := kgood_agg ha
    have hh : heldS P T 8 kt = true := hs
    have heq : ∀ ys, kmatch ys ks = true → ∃ r : Bool, (Op.equal kt (kval (.agg xs)) (kval (.agg ys))).run P w = .ok r w ∧ (r = true ↔ xs = ys) := fun ys hy => by
      obtain ⟨_, _, r, h1, h2⟩ := flatS_eq hT (w := w) 9992 8 kt ti ks ht hks hh xs ys hm hy
      rw [hag] at h1
      exact ⟨r, h1, h2⟩
    have hu := (hT kt ti ht).1
    have key : ∀ (es : List MapEntry) (ds : List DX) (i0 : Nat), es.length = ds.length → (∀ (i : Nat) (e : MapEntry) (d : DX), es[i]? = some e → ds[i]? = some d → e.key = kval d ∧ kgood (true, ks) d = true) →
        ((Instr.findAsking kt (kval (.agg xs)) es i0).run P w = .ok none w ∧ ∀ d ∈ ds, d ≠ .agg xs) ∨ ∃ (j : Nat) (e : MapEntry), (Instr.findAsking kt (kval (.agg xs)) es i0).run P w = .ok (some (i0 + j, e.val)) w ∧ es[j]? = some e ∧ ds[j]? = some (.agg xs) := by
      intro es
      induction es with
      | nil =>
        intro ds i0 hl _
        have : ds = [] := List.eq_nil_of_length_eq_zero hl.symm
        subst this
        exact .inl ⟨rfl, by simp⟩
      | cons e r ih =>
        intro ds i0 hl h
        match ds, hl with
        | d :: dr, hl =>
          obtain ⟨h1, h2⟩ := h 0 e d rfl rfl
          obtain ⟨ys, rfl, hy⟩ := kgood_agg h2
          obtain ⟨b, hb1, hb2⟩ := heq ys hy
          cases b with
          | true =>
            refine .inr ⟨0, e, ?_, rfl, by rw [hb2.1 rfl]; rfl⟩
            simp only [Instr.findAsking, Sem.run_bind, h1, hb1, Result.andThen_ok, if_true, Sem.run_pure, Nat.add_zero]
          | false =>
            have hne : xs ≠ ys := fun e => by have := hb2.2 e; cases this
            have step : (Instr.findAsking kt (kval (.agg xs)) (e :: r) i0).run P w = (Instr.findAsking kt (kval (.agg xs)) r (i0 + 1)).run P w := by
              simp only [Instr.findAsking, Sem.run_bind, h1, hb1, Result.andThen_ok, Bool.false_eq_true, if_false]
            rcases ih dr (i0 + 1) (by simpa using hl) (fun i e d he hd => h (i + 1) e d (by simpa using he) (by simpa using hd)) with ⟨q1, q2⟩ | ⟨j, e', q1, q2, q3⟩
            · refine .inl ⟨by rw [step, q1], fun d hd => ?_⟩
              rcases List.mem_cons.1 hd with rfl | hd
              · intro e; cases e; exact hne rfl
              · exact q2 d hd
            · refine .inr ⟨j + 1, e', ?_, by simpa using q2, by simpa using q3⟩
              rw [step, q1, Nat.add_assoc, Nat.add_comm 1 j]
    have hnow : ∀ i0, es ≠ [] → Instr.findNow ti.u (kval (.agg xs)) es i0 = none := fun i0 hne => by
      cases es with
      | nil => exact absurd rfl hne
      | cons e r =>
        match ds, hlen with
        | d :: dr, _ =>
          obtain ⟨h1, h2⟩ := hes 0 e d rfl rfl
          obtain ⟨ys, rfl, hy⟩ := kgood_agg h2
          simp only [Instr.findNow, kval, h1]
          cases ti.u <;> rfl
    unfold Instr.findKey
    simp only [Sem.run_bind, run_underlying' hu, Result.andThen_ok]
    by_cases hne : es = []
    · subst hne
      have : ds = [] := List.eq_nil_of_length_eq_zero hlen.symm
      subst this
      exact .inl ⟨rfl, by simp⟩
    · rw [hnow 0 hne]
      simpa using key es ds 0 hlen hes
end
end Go.Pv
/- Maps whose keys and elements are data: what is looked up, how many there are. -/
namespace Go.Pv
open Go.RowKit

def dxOf : AV → Option DX
  | .d x => some (.one x)
  | .agg cs => match undD cs with
    | some xs => some (.agg xs)
    | none => none
  | _ => none
theorem dxOf_av {x : AV} {d : DX} (h : dxOf x = some d) : x = d.av := by
  unfold dxOf at h
  split at h
  · cases h; rfl
  · split at h <;> cases h
    rename_i xs hxs
    simp only [DX.av]
    rw [undD_map hxs]
  · cases h
/-- What is found. -/
def dget (es : List (DX × DX)) (k : DX) : Option DX → Prop
  | none => ∀ e ∈ es, e.1 ≠ k
  | some v => (∃ e ∈ es, e.1 = k) ∧ ∀ e ∈ es, e.1 = k → e.2 = v
def zv (ti : TI) : AV := match ti.agg with
  | true => .agg (ti.zero.map .d)
  | false => match ti.zero with
    | [x] => .d x
    | _ => .undef
def lres (ok : Bool) (te : TI) (r : Option DX) : AV := match ok with
  | true => match r with
    | some v => .tup [v.av, .d (.bool true)]
    | none => .tup [zv te, .d (.bool false)]
  | false => match r with
    | some v => v.av
    | none => zv te

section
variable {P : Program} {G : Gl} {T : Nat → Option TI} {o : Oper} {rh : Operand → AV} {L : List AB} {s : List (Nat × AB)}

theorem TabOK.zv (hT : TabOK P T) {t : TypeId} {ti : TI} (ht : T t = some ti) : ∃ z, (∀ w, (zeroValue t).run P w = .ok z w) ∧ ∀ (M : Mp) (F : Nat → Prop) (w : World), RV M F w (Pv.zv ti) z := by
  obtain ⟨h1, h2, i, z, zs, h3, h4, h5, h6, h7, h8, h9, h10, h11⟩ := hT t ti ht
  refine ⟨z, fun w => run_zeroValue' h3 h6 w, fun M F w => ?_⟩
  have hrd : ∀ (j : Nat) (y : DV) (u : Value), ti.zero[j]? = some y → zs[j]? = some u → RD F w y u := fun j y u hy hu => by
    have h12 : (ti.zero.map dconst)[j]? = (zs.map some)[j]? := by rw [h8]
    simp only [List.getElem?_map, hy, hu, Option.map_some] at h12
    injection h12 with h12
    exact dconst_RD h12
  have hl : ti.zero.length = zs.length := by
    have := congrArg List.length h8
    simpa using this
  unfold Pv.zv
  cases hag : ti.agg with
  | true =>
    rw [h10 hag]
    refine .agg _ zs (by simp [hl]) (fun j u hu => ?_) (fun j x u hx hu => ?_)
    · have hj := (List.getElem?_eq_some_iff.1 hu).1
      exact (hrd j _ u (List.getElem?_eq_getElem (by omega)) hu).oneCell
    · rw [List.getElem?_map] at hx
      obtain ⟨y, hy, rfl⟩ := Option.map_eq_some_iff.1 hx
      exact .d (hrd j y u hy hu)
  | false =>
    obtain ⟨h12, h13⟩ := h11 hag
    subst h12
    match hz : ti.zero, hl with
    | [x], _ => exact .d (hrd 0 x z (by rw [hz]; rfl) rfl)

/-- What a map's entries are, by the model. -/
theorem dmap_find (hT : TabOK P T) {M : Mp} {F U : Nat → Prop} {w : World} (hS : St M F U L s w) {id b : Nat} {es : List (DX × DX)} (hin : (id, AB.dmap es) ∈ s) (hm : M.g id = some b) {kt : Nat} {nb : Bool} {c : Bool × List IntKind} (hk : keyK T kt = some (nb, c)) (hs : keyH P T kt nb)
    {kx : DX} (hg : kgood c kx = true) (hall : ∀ e ∈ es, kgood c e.1 = true) :
    ∃ (ents : Array MapEntry) (clock : Nat), w.heap[b]? = some (.map ents clock) ∧ ents.size = es.length ∧
      (∀ (i : Nat) (e : MapEntry) (x : DX × DX), ents[i]? = some e → es[i]? = some x → e.key = kval x.1 ∧ RV M F w x.2.av e.val) ∧
      (∀ (i : Nat) (e : MapEntry), ents[i]? = some e → e.born < clock) ∧ (∀ (i j : Nat) (e e' : MapEntry), ents[i]? = some e → ents[j]? = some e' → e.born = e'.born → i = j) ∧
      (((Instr.findKey kt (kval kx) ents.toList).run P w = .ok none w ∧ ∀ e ∈ es, e.1 ≠ kx) ∨ ∃ (j : Nat) (e : MapEntry) (x : DX × DX), (Instr.findKey kt (kval kx) ents.toList).run P w = .ok (some (j, e.val)) w ∧ ents[j]? = some e ∧ es[j]? = some x ∧ x.1 = kx) := by
  obtain ⟨ents, clock, h1, h2, h3, h4, h5⟩ := hS.rb (.g id) _ b hin hm
  have hkey : ∀ (i : Nat) (e : MapEntry) (x : DX × DX), ents[i]? = some e → es[i]? = some x → e.key = kval x.1 ∧ RV M F w x.2.av e.val := fun i e x he hx => by
    obtain ⟨q1, q2⟩ := h3 i e x he hx
    exact ⟨kgood_val (hall x (List.mem_of_getElem? hx)) q1, DX.rv q2⟩
  refine ⟨ents, clock, h1, h2, hkey, h4, h5, ?_⟩
  rcases key_find hT (w := w) hk hs hg ents.toList (es.map (·.1)) (by simp [h2]) (fun i e d he hd => by
    rw [List.getElem?_map] at hd
    obtain ⟨x, hx, rfl⟩ := Option.map_eq_some_iff.1 hd
    exact ⟨(hkey i e x (by simpa using he) hx).1, hall x (List.mem_of_getElem? hx)⟩) with ⟨q1, q2⟩ | ⟨j, e, q1, q2, q3⟩
  · exact .inl ⟨q1, fun e he => q2 e.1 (List.mem_map.2 ⟨e, he, rfl⟩)⟩
  · rw [List.getElem?_map] at q3
    obtain ⟨x, hx, hx2⟩ := Option.map_eq_some_iff.1 q3
    exact .inr ⟨j, e, x, q1, by simpa using q2, hx, hx2⟩

theorem run_getMap {w : World} {b : Nat} {ents : Array MapEntry} {clock : Nat} (h : w.heap[b]? = some (.map ents clock)) : (getObj b).run P w = .ok (.map ents clock) w := by
  simp [getObj, Sem.run, h]
theorem lres_rv {M : Mp} {F : Nat → Prop} {w : World} {ok : Bool} {te : TI} {r : Option DX} {v : Value} (h : match r with
    | some x => RV M F w x.av v
    | none => RV M F w (zv te) v) : RV M F w (lres ok te r) (if ok = true then .tuple #[v, .bool r.isSome] else v) := by
  have two : ∀ {x : AV} {b : Bool}, RV M F w x v → RV M F w (.tup [x, .d (.bool b)]) (.tuple #[v, .bool b]) := fun {x b} h => by
    refine .tup _ [v, .bool b] rfl fun j y u hy hu => ?_
    match j, hy, hu with
    | 0, hy, hu => simp at hy hu; subst hy; subst hu; exact h
    | 1, hy, hu => simp at hy hu; subst hy; subst hu; exact .d (.bool b)
    | j + 2, hy, hu => simp at hy
  cases r with
  | none =>
    cases ok
    · simpa [lres] using h
    · simpa [lres] using two (b := false) h
  | some x =>
    cases ok
    · simpa [lres] using h
    · simpa [lres] using two (b := true) h

theorem pj_lookup (hT : TabOK P T) {t kt et : TypeId} {ti te : TI} (ht : T t = some ti) (hu : ti.u = .map kt et) {nb : Bool} {c : Bool × List IntKind} (hk : keyK T kt = some (nb, c)) (hte : T et = some te) (hs : keyH P T kt nb) {x k : Operand} {ok : Bool} (ho : o.op = .lookup t x k ok)
    {id : Nat} (hx1 : rh x = .mp (.g id)) {es : List (DX × DX)} (hm : (id, AB.dmap es) ∈ s) {kx : DX} (hkx : rh k = kx.av) (hg : kgood c kx = true) (hall : ∀ e ∈ es, kgood c e.1 = true) {r : Option DX} (hr : dget es kx r) : PJ P G o rh L s (lres ok te r) [] := by
  refine pj_value fun M F U w a hS hG hx => ?_
  have h1 := hx x (by simp [ho, Op.operands])
  have h2 := hx k (by simp [ho, Op.operands])
  rw [hx1] at h1
  rw [hkx] at h2
  have hkv := kgood_val hg h2
  generalize he : a.eval x = u at h1
  cases h1 with
  | mp _ b hb =>
    obtain ⟨ents, clock, q1, q2, q3, q4, q5, q6⟩ := dmap_find hT hS hm hb hk hs hg hall
    obtain ⟨z, hz1, hz2⟩ := hT.zv hte
    have hun := run_underlying' ((hT t ti ht).1) w
    rw [hu] at hun
    have hrun : ∀ (v : Value) (b1 : Bool) (fr : Option (Nat × Value)), (Instr.findKey kt (kval kx) ents.toList).run P w = .ok fr w → (match fr with
        | some (_, v') => v' = v ∧ b1 = true
        | none => z = v ∧ b1 = false) → (Instr.lookup t (.map (some b)) (kval kx) ok).run P w = .ok (if ok = true then .tuple #[v, .bool b1] else v) w := by
      intro v b1 fr hf hv
      unfold Instr.lookup
      cases fr with
      | none =>
        obtain ⟨rfl, rfl⟩ := hv
        simp only [Sem.run_bind, hun, Result.andThen_ok, Sem.run_pure, run_getMap q1, key_check hT hk hg, hf, hz1]
      | some jv =>
        obtain ⟨j, v'⟩ := jv
        obtain ⟨rfl, rfl⟩ := hv
        simp only [Sem.run_bind, hun, Result.andThen_ok, Sem.run_pure, run_getMap q1, key_check hT hk hg, hf]
    have fin : ∀ (q : Option DX) (v : Value), (Instr.lookup t (.map (some b)) (kval kx) ok).run P w = .ok (if ok = true then .tuple #[v, .bool q.isSome] else v) w → (match q with
        | some x => RV M F w x.av v
        | none => RV M F w (zv te) v) → ∃ val, (execOp a.eval o).run P w = .ok (.value val) w ∧ RV M F w (lres ok te q) val := by
      intro q v h3 h4
      refine ⟨_, ?_, lres_rv h4⟩
      simp only [execOp, ho, he, hkv, Sem.run_bind, h3, Result.andThen_ok, Sem.run_pure]
    rcases q6 with ⟨f1, f2⟩ | ⟨j, e, y, f1, f2, f3, f4⟩
    · have hrn : r = none := by
        cases r with
        | none => rfl
        | some v =>
          obtain ⟨⟨e, he1, he2⟩, _⟩ := hr
          exact absurd he2 (f2 e he1)
      subst hrn
      exact fin none z (hrun z false none f1 ⟨rfl, rfl⟩) (hz2 M F w)
    · have hmem := List.mem_of_getElem? f3
      cases r with
      | none => exact absurd f4 (hr y hmem)
      | some v =>
        have hyv : y.2 = v := hr.2 y hmem f4
        refine fin (some v) e.val (hrun e.val true _ f1 ⟨rfl, rfl⟩) ?_
        show RV M F w v.av e.val
        rw [← hyv]
        exact (q3 j e y f2 f3).2

/-- In a map that is nil nothing is found. -/
theorem pj_lookup_nil (hT : TabOK P T) {t kt et : TypeId} {ti te : TI} (ht : T t = some ti) (hu : ti.u = .map kt et) {nb : Bool} {c : Bool × List IntKind} (hk : keyK T kt = some (nb, c)) (hte : T et = some te) {x k : Operand} {ok : Bool} (ho : o.op = .lookup t x k ok)
    (hx1 : rh x = .d (.raw (.map none))) {kx : DX} (hkx : rh k = kx.av) (hg : kgood c kx = true) : PJ P G o rh L s (lres ok te none) [] := by
  refine pj_value fun M F U w a hS hG hx => ?_
  have h1 := hx x (by simp [ho, Op.operands])
  have h2 := hx k (by simp [ho, Op.operands])
  rw [hx1] at h1
  rw [hkx] at h2
  have hkv := kgood_val hg h2
  obtain ⟨z, hz1, hz2⟩ := hT.zv hte
  have hun := run_underlying' ((hT t ti ht).1) w
  rw [hu] at hun
  have hfind : (Instr.findKey kt (kval kx) []).run P w = .ok none w := key_nil hT hk kx
  refine ⟨_, ?_, lres_rv (r := none) (hz2 M F w)⟩
  simp only [execOp, ho, h1.raw_inv, hkv, Sem.run_bind]
  unfold Instr.lookup
  simp only [Sem.run_bind, hun, Result.andThen_ok, Sem.run_pure, key_check hT hk hg, hfind, hz1]
  rfl

/-- How many a map has. -/
def vmlen (s : List (Nat × AB)) (x : AV) : Option Int := match x with
  | .mp (.g id) => match sfind s id with
    | some (.dmap es) => some es.length
    | some (.map es) => some es.length
    | _ => none
  | .d (.raw (.map none)) => some 0
  | _ => none
theorem pj_mlen {t k e : TypeId} {ti : TI} (hT : TabOK P T) (ht : T t = some ti) (hu : ti.u = .map k e) {x : Operand} {n : Int} (ho : o.op = .call { callee := .builtin .len, args := #[x], argTypes := #[t] }) (hv : vmlen s (rh x) = some n) : PJ P G o rh L s (.d (.int .i64 n)) [] := by
  refine pj_value fun M F U w a hS hG hx => ⟨.int .i64 n, ?_, .d (.int _ _)⟩
  have h1 := hx x (by simp [ho, Op.operands, Call.operands])
  have hun := run_underlying' ((hT t ti ht).1) w
  rw [hu] at hun
  have fin : ∀ (u : Value), a.eval x = u → (Builtin.len_ #[t] 0 #[u]).run P w = .ok (.int .i64 n) w → (execOp a.eval o).run P w = .ok (.value (.int .i64 n)) w := by
    intro u hu2 h
    simp only [execOp, ho, resolve, invoke, builtin, Sem.run_bind, Sem.run_pure, Result.andThen_ok, List.map_toArray, List.map_cons, List.map_nil, hu2]
    have : (Builtin.len_ #[t] 0 #[u]).run P w = .ok (.int .i64 n) w := h
    first
      | (rw [this]; rfl)
      | (erw [this]; rfl)
  unfold vmlen at hv
  split at hv
  · rename_i id e1
    rw [e1] at h1
    generalize he : a.eval x = u at h1
    cases h1 with
    | mp _ b hb =>
      have key : ∀ m : Nat, (∃ ents clock, w.heap[b]? = some (.map ents clock) ∧ ents.size = m) → n = (m : Int) → (execOp a.eval o).run P w = .ok (.value (.int .i64 n)) w := by
        rintro m ⟨ents, clock, q1, q2⟩ rfl
        refine fin _ he ?_
        unfold Builtin.len_
        simp [Sem.run_bind, hun, run_getMap q1, q2, goInt]
      split at hv <;> cases hv
      · rename_i es hm
        obtain ⟨ents, clock, q1, q2, _⟩ := hS.rb (.g id) _ b (sfind_mem hm) hb
        exact key _ ⟨ents, clock, q1, q2⟩ rfl
      · rename_i es hm
        obtain ⟨ents, clock, q1, q2, _⟩ := hS.rb (.g id) _ b (sfind_mem hm) hb
        exact key _ ⟨ents, clock, q1, q2⟩ rfl
  · rename_i e1
    cases hv
    rw [e1] at h1
    refine fin _ h1.raw_inv ?_
    unfold Builtin.len_
    simp [Sem.run_bind, hun, goInt]
  · cases hv
end
end Go.Pv
/- Parts of slices, capacities; interfaces; more plain operations. -/
namespace Go.Pv
open Go.RowKit

section
variable {P : Program} {G : Gl} {T : Nat → Option TI} {o : Oper} {rh : Operand → AV} {L : List AB} {s : List (Nat × AB)}

/-- A bound that is there, or the one that is meant. -/
def obd (rh : Operand → AV) (x : Option Operand) (d : Int) : Option Int := match x with
  | none => some d
  | some x => match rh x with
    | .d (.int _ n) => some n
    | _ => none
theorem obd_val {M : Mp} {F : Nat → Prop} {w : World} {a : Act} {x : Option Operand} {d n : Int} (h : obd rh x d = some n) (hx : ∀ y ∈ x.toArray.toList, RV M F w (rh y) (a.eval y)) : (x = none ∧ n = d) ∨ ∃ k, x.map a.eval = some (.int k n) := by
  cases x with
  | none => simp only [obd, Option.some.injEq] at h; exact .inl ⟨rfl, h.symm⟩
  | some x =>
    simp only [obd] at h
    split at h <;> cases h
    rename_i k e
    have := hx x (by simp)
    rw [e] at this
    exact .inr ⟨k, by simp [this.int_inv]⟩
theorem run_bound {x : Value} {k : IntKind} {n : Int} {y : Nat} {code : BoundsCode} (hx : x = .int k n) (h0 : 0 ≤ n) (hy : n ≤ y) (w : World) : (Instr.sliceBound x y code).run P w = .ok n.toNat w := by
  subst hx
  simp [Instr.sliceBound, asIntOf, h0, hy]
theorem run_bounds {len cap : Nat} {lo hi : Option Value} {l h : Int} (hl : (lo = none ∧ l = 0) ∨ ∃ k, lo = some (.int k l)) (hh : (hi = none ∧ h = (len : Int)) ∨ ∃ k, hi = some (.int k h)) (h0 : 0 ≤ l) (hlh : l ≤ h) (hc : h ≤ (cap : Int)) (isS : Bool) (w : World) :
    (Instr.sliceBounds isS len cap lo hi none).run P w = .ok (l.toNat, h.toNat, cap) w := by
  have hh0 : 0 ≤ h := by omega
  unfold Instr.sliceBounds
  rcases hh with ⟨rfl, rfl⟩ | ⟨k2, rfl⟩ <;> rcases hl with ⟨rfl, rfl⟩ | ⟨k1, rfl⟩
  · simp
  · simp only [Sem.run_bind, Sem.run_pure, Result.andThen_ok, run_bound (P := P) rfl h0 hlh]
    simp
  · simp [run_bound (P := P) (y := cap) rfl hh0 hc]
  · have e : ((h.toNat : Nat) : Int) = h := by omega
    simp [run_bound (P := P) (y := cap) rfl hh0 hc, run_bound (P := P) (y := h.toNat) rfl h0 (by omega)]

theorem take_drop_get {α : Type} {xs : List α} {l h i : Nat} {x : α} (hx : ((xs.take h).drop l)[i]? = some x) : xs[l + i]? = some x := by
  rw [List.getElem?_drop, List.getElem?_take] at hx
  split at hx
  · exact hx
  · cases hx

/-- A part of a slice. -/
theorem pj_slice (hT : TabOK P T) {t e : TypeId} {ti te : TI} (ht : T t = some ti) (hu : ti.u = .slice e) (hte : T e = some te) {x : Operand} {lo hi : Option Operand} {l h : Int} {v : AV} (ho : o.op = .slice t x lo hi none) (hv : match rh x with
    | .d (.list sz rows) => sz = te.size ∧ obd rh lo 0 = some l ∧ obd rh hi rows.length = some h ∧ 0 ≤ l ∧ l ≤ h ∧ h ≤ rows.length ∧ v = .d (.list sz ((rows.take h.toNat).drop l.toNat))
    | .d .nil => obd rh lo 0 = some l ∧ obd rh hi 0 = some h ∧ l = 0 ∧ h = 0 ∧ v = .d .nil
    | .d .emp => obd rh lo 0 = some l ∧ obd rh hi 0 = some h ∧ l = 0 ∧ h = 0 ∧ v = .d .emp
    | .slc r sz off len cap => sz = te.size ∧ obd rh lo 0 = some l ∧ obd rh hi len = some h ∧ 0 ≤ l ∧ l ≤ h ∧ h ≤ cap ∧ v = .slc r sz (off + l.toNat) (h.toNat - l.toNat) (cap - l.toNat)
    | _ => False) : PJ P G o rh L s v [] := by
  refine pj_value fun M F U w a hS hG hx => ?_
  obtain ⟨u1, _⟩ := hT t ti ht
  rw [hu] at u1
  obtain ⟨_, _, i, _, _, h4, h5, _⟩ := hT e te hte
  have h1 := hx x (by simp [ho, Op.operands])
  have hlo : ∀ y ∈ lo.toArray.toList, RV M F w (rh y) (a.eval y) := fun y hy => hx y (by simp [ho, Op.operands] at hy ⊢; exact .inr (.inl hy))
  have hhi : ∀ y ∈ hi.toArray.toList, RV M F w (rh y) (a.eval y) := fun y hy => hx y (by simp [ho, Op.operands] at hy ⊢; exact .inr (.inr hy))
  have key : ∀ (A : Option Addr) (len cap : Nat), a.eval x = .slice A len cap → obd rh lo 0 = some l → obd rh hi len = some h → 0 ≤ l → l ≤ h → h ≤ (cap : Int) →
      (execOp a.eval o).run P w = .ok (.value (.slice (if cap = l.toNat then A else A.map (·.add (l.toNat * te.size))) (h.toNat - l.toNat) (cap - l.toNat))) w := by
    intro A len cap hax hl hh h0 hlh hc
    have e1 : (lo.map a.eval = none ∧ l = 0) ∨ ∃ k, lo.map a.eval = some (.int k l) := by
      rcases obd_val hl hlo with ⟨rfl, rfl⟩ | h
      · exact .inl ⟨rfl, rfl⟩
      · exact .inr h
    have e2 : (hi.map a.eval = none ∧ h = (len : Int)) ∨ ∃ k, hi.map a.eval = some (.int k h) := by
      rcases obd_val hh hhi with ⟨rfl, rfl⟩ | h
      · exact .inl ⟨rfl, rfl⟩
      · exact .inr h
    have hb := run_bounds (P := P) e1 e2 h0 hlh hc true w
    simp only [execOp, ho, hax, Option.map_none, Instr.sliceAt]
    simp only [Sem.run_bind, Instr.slice, run_underlying' u1, Result.andThen_ok, hb, run_sizeOf' h4, h5, Sem.run_pure]
  split at hv <;> try exact hv.elim
  · rename_i sz rows hrx
    obtain ⟨rfl, hl, hh, h0, hlh, hc, rfl⟩ := hv
    rw [hrx] at h1
    generalize hax : a.eval x = u at h1
    cases h1 with | d h1 => cases h1 with
    | empty _ A c =>
      simp only [List.length_nil] at hc hh
      refine ⟨_, key A 0 c hax (by simpa using hl) (by simpa using hh) h0 hlh (by omega), ?_⟩
      have : h.toNat = 0 := by omega
      simp only [List.take_nil, List.drop_nil, this, Nat.zero_sub]
      exact .d (.empty _ _ _)
    | list _ _ ad c uu hcc hN hln hm hr =>
      refine ⟨_, key (some ad) rows.length c hax hl hh h0 hlh (by omega), ?_⟩
      have hlen : ((rows.take h.toNat).drop l.toNat).length = h.toNat - l.toNat := by simp; omega
      by_cases hz : h.toNat - l.toNat = 0
      · have : (rows.take h.toNat).drop l.toNat = [] := List.length_eq_zero_iff.1 (by omega)
        rw [this, hz]
        exact .d (.empty _ _ _)
      · rw [if_neg (by omega)]
        have := RD.list (N := F) (w := w) te.size ((rows.take h.toNat).drop l.toNat) (ad.add (l.toNat * te.size)) (c - l.toNat) (fun i j => uu (l.toNat + i) j) (by omega) (by rw [block_of_add]; exact hN) (fun i r hi => hln _ r (take_drop_get hi)) (fun i j hi hj => by
          rw [add_of_add]
          have := hm (l.toNat + i) j (by omega) hj
          rw [Nat.add_mul, Nat.add_assoc] at this
          exact this) (fun i r hi j x hx => hr _ r (take_drop_get hi) j x hx)
        rw [hlen] at this
        exact .d this
  · rename_i hrx
    obtain ⟨hl, hh, rfl, rfl, rfl⟩ := hv
    rw [hrx] at h1
    refine ⟨_, key none 0 0 h1.nil_inv hl (by simpa using hh) (by omega) (by omega) (by omega), ?_⟩
    exact .d .nil
  · rename_i hrx
    obtain ⟨hl, hh, rfl, rfl, rfl⟩ := hv
    rw [hrx] at h1
    generalize hax : a.eval x = u at h1
    cases h1 with | d h1 => cases h1 with
    | emp A =>
      refine ⟨_, key A 0 0 hax hl (by simpa using hh) (by omega) (by omega) (by omega), ?_⟩
      exact .d (.emp _)
  · rename_i r sz off len cap hrx
    obtain ⟨rfl, hl, hh, h0, hlh, hc, rfl⟩ := hv
    rw [hrx] at h1
    generalize hax : a.eval x = u at h1
    cases h1 with
    | slc0 _ _ _ A =>
      refine ⟨_, key A 0 0 hax hl (by simpa using hh) h0 hlh hc, ?_⟩
      have e1 : h.toNat - l.toNat = 0 := by omega
      have e2 : 0 - l.toNat = 0 := by omega
      rw [e1, e2]
      exact .slc0 _ _ _ _
    | slc _ _ _ _ _ b hm hcc hs =>
      refine ⟨_, key _ len cap hax hl hh h0 hlh hc, ?_⟩
      by_cases hz : cap = l.toNat
      · rw [if_pos hz]
        have e1 : h.toNat - l.toNat = 0 := by omega
        have e2 : cap - l.toNat = 0 := by omega
        rw [e1, e2]
        exact .slc0 _ _ _ _
      · rw [if_neg hz]
        simp only [Option.map_some, add_plain, ← Nat.add_mul]
        obtain ⟨t', n', s1, s2⟩ := hs
        refine .slc r te.size _ _ _ b hm (by omega) ⟨t', n', s1, ?_⟩
        rw [show off + l.toNat + (cap - l.toNat) = off + cap by omega]
        exact s2

/-- No room, no length: 's[:0:0]'. -/
theorem pj_slice0 (hT : TabOK P T) {t e : TypeId} {ti te : TI} (ht : T t = some ti) (hu : ti.u = .slice e) (hte : T e = some te) {x : Operand} {lo : Option Operand} {k1 k2 : IntKind} (hlo : lo = none ∨ ∃ k, lo = some (.const (.int k 0))) (ho : o.op = .slice t x lo (some (.const (.int k1 0))) (some (.const (.int k2 0)))) (hv : match rh x with
    | .d (.list _ _) => True
    | .d .nil => True
    | .d .emp => True
    | .slc _ _ _ _ _ => True
    | _ => False) : PJ P G o rh L s (match rh x with
    | .d .nil => .d .nil
    | _ => .d .emp) [] := by
  refine pj_value fun M F U w a hS hG hx => ?_
  obtain ⟨u1, _⟩ := hT t ti ht
  rw [hu] at u1
  obtain ⟨_, _, i, _, _, h4, h5, _⟩ := hT e te hte
  have h1 := hx x (by simp [ho, Op.operands])
  have key : ∀ (A : Option Addr) (len cap : Nat), a.eval x = .slice A len cap → (execOp a.eval o).run P w = .ok (.value (.slice A 0 0)) w := by
    intro A len cap hax
    simp only [execOp, ho, hax, Instr.sliceAt]
    rcases hlo with rfl | ⟨k, rfl⟩ <;>
      simp [Instr.slice, Instr.sliceBounds, Instr.sliceBound, asIntOf, Act.eval, run_underlying' u1, run_sizeOf' h4]
  split at hv <;> try exact hv.elim
  · rename_i hrx
    rw [hrx] at h1 ⊢
    generalize hax : a.eval x = u at h1
    cases h1 with | d h1 => cases h1 with
    | empty _ A c => exact ⟨_, key A 0 c hax, .d (.emp _)⟩
    | list _ _ ad c uu hcc hN hln hm hr => exact ⟨_, key _ _ c hax, .d (.emp _)⟩
  · rename_i hrx
    rw [hrx] at h1 ⊢
    exact ⟨_, key none 0 0 h1.nil_inv, .d .nil⟩
  · rename_i hrx
    rw [hrx] at h1 ⊢
    generalize hax : a.eval x = u at h1
    cases h1 with | d h1 => cases h1 with
    | emp A => exact ⟨_, key A 0 0 hax, .d (.emp _)⟩
  · rename_i hrx
    rw [hrx] at h1 ⊢
    generalize hax : a.eval x = u at h1
    cases h1 with
    | slc0 _ _ _ A => exact ⟨_, key A 0 0 hax, .d (.emp _)⟩
    | slc _ _ _ _ _ b hm hcc hs => exact ⟨_, key _ _ _ hax, .d (.emp _)⟩
/-- What a slice has room for. -/
def vcap (x : AV) : Option Int := match x with
  | .d .nil => some 0
  | .d .emp => some 0
  | .slc _ _ _ _ cap => some (cap : Int)
  | _ => none
theorem pj_cap (hT : TabOK P T) {t e : TypeId} {ti : TI} (ht : T t = some ti) (hu : ti.u = .slice e) {x : Operand} {n : Int} (ho : o.op = .call { callee := .builtin .cap, args := #[x], argTypes := #[t] }) (hv : vcap (rh x) = some n) : PJ P G o rh L s (.d (.int .i64 n)) [] := by
  refine pj_value fun M F U w a hS hG hx => ⟨.int .i64 n, ?_, .d (.int _ _)⟩
  obtain ⟨h1, _⟩ := hT t ti ht
  have h2 := hx x (by simp [ho, Op.operands, Call.operands])
  have h3 : ∃ A m c, a.eval x = .slice A m c ∧ n = (c : Int) := by
    unfold vcap at hv
    generalize he : a.eval x = u at h2
    split at hv <;> try (cases hv; done)
    · rename_i e1
      cases hv
      rw [e1] at h2
      rw [h2.nil_inv]
      exact ⟨none, 0, 0, rfl, rfl⟩
    · rename_i e1
      cases hv
      rw [e1] at h2
      cases h2 with
      | d h2 => cases h2 with
        | emp A => exact ⟨A, 0, 0, rfl, rfl⟩
    · rename_i r sz off len cap e1
      cases hv
      rw [e1] at h2
      cases h2 with
      | slc _ _ _ _ _ b hm hc hs => exact ⟨_, _, _, rfl, rfl⟩
      | slc0 _ _ _ A => exact ⟨_, _, _, rfl, rfl⟩
  obtain ⟨A, m, c, h4, rfl⟩ := h3
  simp only [execOp, ho, resolve, invoke, builtin, Sem.run_bind, Sem.run_pure, Result.andThen_ok, List.map_toArray, List.map_cons, List.map_nil, h4, Builtin.cap_]
  simp [run_underlying' h1, hu, goInt]
end
end Go.Pv
/- Rows of values; slices lent to a callee that only reads. -/
namespace Go.Pv
open Go.RowKit

section
variable {P : Program} {G : Gl} {T : Nat → Option TI} {o : Oper} {rh : Operand → AV} {L : List AB} {s : List (Nat × AB)} {M : Mp} {F F1 U : Nat → Prop} {w w1 : World}

/-! ### Rows -/
structure RowV (F : Nat → Prop) (w : World) (sz : Nat) (rows : List (List DV)) (vals : List Value) : Prop where
  le : rows.length * sz ≤ vals.length
  len : ∀ (i : Nat) (r : List DV), rows[i]? = some r → r.length = sz
  one : ∀ v ∈ vals, v.oneCell' = true
  rd : ∀ (i : Nat) (r : List DV) (j : Nat) (x : DV) (v : Value), rows[i]? = some r → r[j]? = some x → vals[i * sz + j]? = some v → RD F w x v
theorem RowV.mono {sz : Nat} {rows : List (List DV)} {vals : List Value} (h : RowV F w sz rows vals) (hF : ∀ b, F b → F1 b) (hw : ∀ b, F b → w1.heap[b]? = w.heap[b]?) : RowV F1 w1 sz rows vals :=
  ⟨h.le, h.len, h.one, fun i r j x v h1 h2 h3 => (h.rd i r j x v h1 h2 h3).mono hF hw⟩
theorem RowV.nil {sz : Nat} {vals : List Value} (h : ∀ v ∈ vals, v.oneCell' = true) : RowV F w sz [] vals := ⟨by simp, fun i r h => by simp at h, h, fun i r j x v h => by simp at h⟩
theorem idx_row {i n sz j : Nat} (hi : i < n) (hj : j < sz) : i * sz + j < n * sz := by
  calc i * sz + j < i * sz + sz := by omega
    _ = (i + 1) * sz := by rw [Nat.add_mul, Nat.one_mul]
    _ ≤ n * sz := Nat.mul_le_mul_right _ hi
theorem RowV.append {sz : Nat} {r1 r2 : List (List DV)} {v1 v2 : List Value} (h : RowV F w sz r1 v1) (hl : v1.length = r1.length * sz) (k : RowV F w sz r2 v2) : RowV F w sz (r1 ++ r2) (v1 ++ v2) := by
  refine ⟨by have := k.le; simp [Nat.add_mul, hl]; omega, fun i r hi => ?_, fun v hv => ?_, fun i r j x v hi hj hv => ?_⟩
  · by_cases h1 : i < r1.length
    · rw [List.getElem?_append_left h1] at hi; exact h.len i r hi
    · rw [List.getElem?_append_right (by omega)] at hi; exact k.len _ r hi
  · rcases List.mem_append.1 hv with hv | hv
    · exact h.one v hv
    · exact k.one v hv
  · by_cases h1 : i < r1.length
    · rw [List.getElem?_append_left h1] at hi
      have hj' : j < sz := by have := (List.getElem?_eq_some_iff.1 hj).1; have := h.len i r hi; omega
      rw [List.getElem?_append_left (by rw [hl]; exact idx_row h1 hj')] at hv
      exact h.rd i r j x v hi hj hv
    · rw [List.getElem?_append_right (by omega)] at hi
      have he : i * sz + j = v1.length + ((i - r1.length) * sz + j) := by
        rw [hl, ← Nat.add_assoc, ← Nat.add_mul]
        congr 2; omega
      rw [he, List.getElem?_append_right (by omega), Nat.add_sub_cancel_left] at hv
      exact k.rd _ r j x v hi hj hv
theorem RowV.seg {sz : Nat} {rows : List (List DV)} {vals : List Value} (h : RowV F w sz rows vals) {off n : Nat} (hn : off + n ≤ rows.length) : RowV F w sz ((rows.drop off).take n) ((vals.drop (off * sz)).take (n * sz)) ∧ ((vals.drop (off * sz)).take (n * sz)).length = n * sz ∧ ((rows.drop off).take n).length = n := by
  have hle := h.le
  have h1 : (off + n) * sz ≤ rows.length * sz := Nat.mul_le_mul_right _ hn
  rw [Nat.add_mul] at h1
  have hl1 : ((vals.drop (off * sz)).take (n * sz)).length = n * sz := by simp; omega
  have hl2 : ((rows.drop off).take n).length = n := by simp; omega
  refine ⟨⟨by rw [hl1, hl2]; exact Nat.le_refl _, fun i r hi => ?_, fun v hv => h.one v (List.mem_of_mem_drop (List.mem_of_mem_take hv)), fun i r j x v hi hj hv => ?_⟩, hl1, hl2⟩
  · rw [List.getElem?_take] at hi
    split at hi
    · rw [List.getElem?_drop] at hi; exact h.len _ r hi
    · cases hi
  · rw [List.getElem?_take] at hi hv
    split at hi <;> try cases hi
    split at hv <;> try cases hv
    rw [List.getElem?_drop] at hi hv
    refine h.rd (off + i) r j x v hi hj ?_
    rw [← hv, Nat.add_mul, Nat.add_assoc]
theorem RowV.drop {sz : Nat} {rows : List (List DV)} {vals : List Value} (h : RowV F w sz rows vals) (q : Nat) : RowV F w sz (rows.drop q) (vals.drop (q * sz)) := by
  have hle := h.le
  refine ⟨by simp [Nat.sub_mul]; omega, fun i r hi => ?_, fun v hv => h.one v (List.mem_of_mem_drop hv), fun i r j x v hi hj hv => ?_⟩
  · rw [List.getElem?_drop] at hi; exact h.len _ r hi
  · rw [List.getElem?_drop] at hi hv
    refine h.rd (q + i) r j x v hi hj ?_
    rw [← hv, Nat.add_mul, Nat.add_assoc]
/-- Rows written at a place. -/
def splice (rows : List (List DV)) (p : Nat) (new : List (List DV)) : List (List DV) := rows.take p ++ new ++ rows.drop (p + new.length)
theorem RowV.splice {sz : Nat} {rows new : List (List DV)} {vals nv : List Value} (h : RowV F w sz rows vals) (k : RowV F w sz new nv) (hl : nv.length = new.length * sz) {p : Nat} (hp : p ≤ rows.length) :
    RowV F w sz (Pv.splice rows p new) (setN vals (p * sz) nv) := by
  unfold Pv.splice setN
  obtain ⟨q1, q2, q3⟩ := h.seg (off := 0) (n := p) (by omega)
  simp only [List.drop_zero, Nat.zero_mul] at q1 q2 q3
  have := (q1.append (by rw [q2, q3]) k).append (by simp [q2, q3, hl, Nat.add_mul]) (h.drop (p + new.length))
  rw [Nat.add_mul, ← hl] at this
  exact this
theorem RB.row_of {b : Nat} {sz : Nat} {rows : List (List DV)} (h : RB M F w b (.row sz rows)) : ∃ arr t, w.heap[b]? = some (.cells arr t (0, 0)) ∧ RowV F w sz rows arr.toList := by
  obtain ⟨arr, t, h1, h2, h3, h4, h5⟩ := h
  exact ⟨arr, t, h1, by simpa using h2, h3, fun v hv => by
    obtain ⟨j, hj⟩ := List.mem_iff_getElem?.1 hv
    exact h4 j v (by simpa using hj), fun i r j x v hi hj hv => h5 i r j x v hi hj (by simpa using hv)⟩
theorem RB.of_row {b : Nat} {sz : Nat} {rows : List (List DV)} {arr : Array Value} {t : TypeId} (h1 : w.heap[b]? = some (.cells arr t (0, 0))) (h : RowV F w sz rows arr.toList) : RB M F w b (.row sz rows) :=
  ⟨arr, t, h1, by simpa using h.le, h.len, fun j v hv => h.one v (List.mem_of_getElem? (by simpa using hv)), fun i r j x v hi hj hv => h.rd i r j x v hi hj (by simpa using hv)⟩

/-- What a slice yields: rows, cell by cell. -/
def Yields (F : Nat → Prop) (w : World) (sz : Nat) (u : Value) (rows : List (List DV)) : Prop :=
  ∃ A c vals, u = .slice A rows.length c ∧ rows.length ≤ c ∧ vals.length = rows.length * sz ∧ RowV F w sz rows vals ∧ ∀ (j : Nat) (x : Value), vals[j]? = some x → ∃ a, A = some a ∧ w.cell? (a.add j) = some x
def srcK (s : List (Nat × AB)) (sz : Nat) (y : AV) (K : List (List DV) → Prop) : Prop := match y with
  | .d .nil => K []
  | .d .emp => K []
  | .d (.list sz' rows) => match Nat.beq sz' sz with
    | true => K rows
    | false => False
  | .slc (.g id) sz' off len _ => match sfind s id with
    | some (.row sz2 rows) => match Nat.beq sz' sz && Nat.beq sz2 sz with
      | true => off + len ≤ rows.length ∧ K ((rows.drop off).take len)
      | false => False
    | _ => False
  | _ => False
theorem srcK_yields (hS : St M F U L s w) {sz : Nat} {y : AV} {u : Value} {K : List (List DV) → Prop} (hv : RV M F w y u) (h : srcK s sz y K) : ∃ rows, Yields F w sz u rows ∧ K rows := by
  unfold srcK at h
  split at h <;> try exact h.elim
  · refine ⟨[], ⟨none, 0, [], by rw [hv.nil_inv]; rfl, Nat.le_refl _, by simp, .nil (by simp), fun j x h => by simp at h⟩, h⟩
  · cases hv with | d hv => cases hv with
    | emp A => exact ⟨[], ⟨A, 0, [], rfl, Nat.le_refl _, by simp, .nil (by simp), fun j x h => by simp at h⟩, h⟩
  · rename_i sz' rows
    split at h <;> try exact h.elim
    rename_i hb
    have := beq_t hb
    subst this
    refine ⟨rows, ?_, h⟩
    cases hv with | d hv => cases hv with
    | empty _ A c => exact ⟨A, c, [], rfl, Nat.zero_le _, by simp, .nil (by simp), fun j x h => by simp at h⟩
    | list _ _ a c uu hc hN hl hm hr =>
      have hget : ∀ k, k < rows.length * sz' → ∃ i j, i < rows.length ∧ j < sz' ∧ k = i * sz' + j := fun k hk => by
        have hpos : 0 < sz' := by
          rcases Nat.eq_zero_or_pos sz' with e | e
          · rw [e] at hk; simp at hk
          · exact e
        refine ⟨k / sz', k % sz', Nat.div_lt_of_lt_mul (by rw [Nat.mul_comm]; exact hk), Nat.mod_lt _ hpos, ?_⟩
        have := Nat.div_add_mod k sz'
        rw [Nat.mul_comm] at this
        exact this.symm
      have hvget : ∀ i j, i < rows.length → j < sz' → ((List.range (rows.length * sz')).map fun k => uu (k / sz') (k % sz'))[i * sz' + j]? = some (uu i j) := fun i j hi hj => by
        have hlt := idx_row hi hj
        have e1 : (i * sz' + j) / sz' = i := by
          rw [Nat.mul_comm, Nat.mul_add_div (by omega), Nat.div_eq_of_lt hj, Nat.add_zero]
        have e2 : (i * sz' + j) % sz' = j := by
          rw [Nat.mul_comm, Nat.mul_add_mod, Nat.mod_eq_of_lt hj]
        simp [hlt, e1, e2]
      refine ⟨some a, c, (List.range (rows.length * sz')).map fun k => uu (k / sz') (k % sz'), rfl, hc, by simp, ⟨by simp, hl, fun v hv => ?_, fun i r j x v hi hj hv => ?_⟩, fun j x hx => ?_⟩
      · obtain ⟨k, hk, rfl⟩ := List.mem_map.1 hv
        obtain ⟨i, j, hi, hj, rfl⟩ := hget k (by simpa using hk)
        have h1 : j < (rows[i]).length := by have := hl i _ (List.getElem?_eq_getElem hi); omega
        have h2 := hvget i j hi hj
        simp only [List.getElem?_map] at h2
        rw [List.getElem?_eq_getElem (by simpa using hk)] at h2
        simp only [Option.map_some, Option.some.injEq, List.getElem_range] at h2
        rw [h2]
        exact (hr i _ (List.getElem?_eq_getElem hi) j _ (List.getElem?_eq_getElem h1)).oneCell
      · have hi' := (List.getElem?_eq_some_iff.1 hi).1
        have hj' : j < sz' := by have := (List.getElem?_eq_some_iff.1 hj).1; have := hl i r hi; omega
        rw [hvget i j hi' hj'] at hv
        cases hv
        exact hr i r hi j x hj
      · have hjl := (List.getElem?_eq_some_iff.1 hx).1
        obtain ⟨i, j', hi, hj, rfl⟩ := hget j (by simpa using hjl)
        rw [hvget i j' hi hj] at hx
        cases hx
        exact ⟨a, rfl, hm i j' hi hj⟩
  · rename_i id sz' off len cap
    split at h <;> try exact h.elim
    rename_i sz2 rows hid
    split at h <;> try exact h.elim
    rename_i hb
    simp only [Bool.and_eq_true] at hb
    have e1 := beq_t hb.1
    have e2 := beq_t hb.2
    subst e1
    subst e2
    obtain ⟨hle, h⟩ := h
    refine ⟨_, ?_, h⟩
    cases hv with
    | slc0 _ _ _ A => exact ⟨A, 0, [], by simp, by simp, by simp, .nil (by simp), fun j x h => by simp at h⟩
    | slc _ _ _ _ _ b hm hc hs =>
      obtain ⟨arr, t, hbk, hrow⟩ := (hS.rb (.g id) _ b (sfind_mem hid) hm).row_of
      obtain ⟨q1, q2, q3⟩ := hrow.seg hle
      refine ⟨_, cap, _, by rw [q3], by rw [q3]; exact hc, by rw [q2, q3], q1, fun j x hx => ⟨_, rfl, ?_⟩⟩
      rw [add_plain]
      have hj := (List.getElem?_eq_some_iff.1 hx).1
      rw [List.getElem?_take, if_pos (by rw [q2] at hj; exact hj), List.getElem?_drop] at hx
      simp only [World.cell?, hbk]
      simpa using hx
theorem srcK_one {sz : Nat} {y : AV} {K : List (List DV) → Prop} (h : srcK s sz y K) : ∃ rows, srcK s sz y (fun q => q = rows) ∧ K rows := by
  unfold srcK at *
  split at h <;> try exact h.elim
  · exact ⟨[], rfl, h⟩
  · exact ⟨[], rfl, h⟩
  · split at h <;> try exact h.elim
    exact ⟨_, rfl, h⟩
  · split at h <;> try exact h.elim
    rename_i hid
    split at h <;> try exact h.elim
    rename_i hb
    exact ⟨_, ⟨h.1, rfl⟩, h.2⟩

/-- The first m that a slice yields, and how many there are. -/
def srcN (s : List (Nat × AB)) (sz m : Nat) (y : AV) (K : Nat → List (List DV) → Prop) : Prop := match y with
  | .d .nil => K 0 []
  | .d .emp => K 0 []
  | .d (.list sz' rows) => match Nat.beq sz' sz with
    | true => K rows.length (rows.take m)
    | false => False
  | .slc (.g id) sz' off len _ => match sfind s id with
    | some (.row sz2 rows) => match Nat.beq sz' sz && Nat.beq sz2 sz with
      | true => off + min len m ≤ rows.length ∧ K len ((rows.drop off).take (min len m))
      | false => False
    | _ => False
  | _ => False
theorem srcN_get (hS : St M F U L s w) {sz m : Nat} {y : AV} {u : Value} {K : Nat → List (List DV) → Prop} (hv : RV M F w y u) (h : srcN s sz m y K) :
    ∃ l2 rows A c vals, K l2 rows ∧ u = .slice A l2 c ∧ rows.length = min l2 m ∧ vals.length = rows.length * sz ∧ RowV F w sz rows vals ∧ ∀ (j : Nat) (x : Value), vals[j]? = some x → ∃ a, A = some a ∧ w.cell? (a.add j) = some x := by
  unfold srcN at h
  split at h <;> try exact h.elim
  · exact ⟨0, [], none, 0, [], h, hv.nil_inv, by simp, by simp, .nil (by simp), fun j x h => by simp at h⟩
  · cases hv with | d hv => cases hv with
    | emp A => exact ⟨0, [], A, 0, [], h, rfl, by simp, by simp, .nil (by simp), fun j x h => by simp at h⟩
  · rename_i sz' rows
    split at h <;> try exact h.elim
    rename_i hb
    have hsk : srcK s sz (.d (.list sz' rows)) (fun q => q = rows) := by simp only [srcK, hb]
    obtain ⟨rows', ⟨A, c, vals, hu, hc, hvl, hrow, hcell⟩, he⟩ := srcK_yields (sz := sz) hS hv hsk
    subst he
    obtain ⟨g1, g2, g3⟩ := hrow.seg (off := 0) (n := min rows'.length m) (by omega)
    simp only [List.drop_zero, Nat.zero_mul] at g1 g2 g3
    have htk : rows'.take (min rows'.length m) = rows'.take m := by
      rw [List.take_eq_take_iff]; omega
    rw [htk] at g1 g3
    refine ⟨rows'.length, rows'.take m, A, c, vals.take (min rows'.length m * sz), h, hu, g3, by rw [g2, g3], g1, fun j x hx => ?_⟩
    rw [List.getElem?_take] at hx
    split at hx <;> try cases hx
    exact hcell j x hx
  · rename_i id sz' off len cap
    split at h <;> try exact h.elim
    rename_i sz2 rows hid
    split at h <;> try exact h.elim
    rename_i hb
    simp only [Bool.and_eq_true] at hb
    have e1 := beq_t hb.1
    have e2 := beq_t hb.2
    subst e1
    subst e2
    obtain ⟨hle, h⟩ := h
    cases hv with
    | slc0 _ _ _ A => exact ⟨0, _, A, 0, [], h, rfl, by simp, by simp, by simpa using RowV.nil (by simp), fun j x h => by simp at h⟩
    | slc _ _ _ _ _ b hm hc hs =>
      obtain ⟨arr, t, hbk, hrow⟩ := (hS.rb (.g id) _ b (sfind_mem hid) hm).row_of
      obtain ⟨q1, q2, q3⟩ := hrow.seg hle
      refine ⟨_, _, _, cap, _, h, rfl, q3, by rw [q2, q3], q1, fun j x hx => ⟨_, rfl, ?_⟩⟩
      rw [add_plain]
      have hj := (List.getElem?_eq_some_iff.1 hx).1
      rw [List.getElem?_take, if_pos (by rw [q2] at hj; exact hj), List.getElem?_drop] at hx
      simp only [World.cell?, hbk]
      simpa using hx
theorem srcN_one {sz m : Nat} {y : AV} {K : Nat → List (List DV) → Prop} (h : srcN s sz m y K) : ∃ l2 rows, srcN s sz m y (fun a b => a = l2 ∧ b = rows) ∧ K l2 rows := by
  unfold srcN at *
  split at h <;> try exact h.elim
  · exact ⟨0, [], ⟨rfl, rfl⟩, h⟩
  · exact ⟨0, [], ⟨rfl, rfl⟩, h⟩
  · split at h <;> try exact h.elim
    exact ⟨_, _, ⟨rfl, rfl⟩, h⟩
  · split at h <;> try exact h.elim
    rename_i hid
    split at h <;> try exact h.elim
    rename_i hb
    exact ⟨_, _, ⟨h.1, rfl, rfl⟩, h.2⟩
theorem Yields.rd {sz : Nat} {u : Value} {rows : List (List DV)} (h : Yields F w sz u rows) (hsz : 0 < sz) (hF : ∀ b, F b → b < w.heap.size) : RD (fun b => b < w.heap.size) w (.list sz rows) u := by
  obtain ⟨A, c, vals, rfl, hc, hl, hr, hcell⟩ := h
  by_cases hz : rows = []
  · subst hz; exact .empty _ _ _
  · have hpos : 0 < rows.length := List.length_pos_iff.2 hz
    have hvp : 0 < vals.length := by rw [hl]; exact Nat.mul_pos hpos hsz
    obtain ⟨a, rfl, h0⟩ := hcell 0 _ (List.getElem?_eq_getElem hvp)
    have hab : a.block < w.heap.size := by
      unfold World.cell? at h0
      rcases Nat.lt_or_ge (a.add 0).block w.heap.size with q | q
      · rwa [block_of_add] at q
      · rw [Array.getElem?_eq_none q] at h0; cases h0
    have hget : ∀ i j, i < rows.length → j < sz → ∃ v, vals[i * sz + j]? = some v := fun i j hi hj => ⟨_, List.getElem?_eq_getElem (by rw [hl]; exact idx_row hi hj)⟩
    refine .list sz rows a c (fun i j => (vals[i * sz + j]?).getD Go.undef) hc hab hr.len (fun i j hi hj => ?_) (fun i r hi j x hx => ?_)
    · obtain ⟨v, hv⟩ := hget i j hi hj
      obtain ⟨a', e, q⟩ := hcell _ v hv
      cases e
      simp [hv, q]
    · have hj : j < sz := by have := (List.getElem?_eq_some_iff.1 hx).1; have := hr.len i r hi; omega
      obtain ⟨v, hv⟩ := hget i j (List.getElem?_eq_some_iff.1 hi).1 hj
      simp only [hv, Option.getD_some]
      exact (hr.rd i r j x v hi hx hv).mono hF (fun _ _ => rfl)

/-! ### An object as data -/
mutual
def AV.fz (id : Nat) (ab : AB) : AV → AV
  | .d x => .d x
  | .agg cs => .agg (fzL id ab cs)
  | .tup cs => .tup (fzL id ab cs)
  | .fn f cs => .fn f (fzL id ab cs)
  | .ifc t x => .ifc t (x.fz id ab)
  | .ref r off => match r with
    | .l k => .ref (.l k) off
    | .g i => match Nat.beq i id with
      | true => match ab with
        | .cells cs => match undD cs with
          | some ds => .d (.ptr ds off)
          | none => .undef
        | _ => .undef
      | false => .ref (.g i) off
  | .slc r sz off len cap => match r with
    | .l k => .slc (.l k) sz off len cap
    | .g i => match Nat.beq i id with
      | true => match ab with
        | .row sz' rows => match Nat.beq sz' sz with
          | true => .d (.list sz ((rows.drop off).take len))
          | false => .undef
        | _ => .undef
      | false => .slc (.g i) sz off len cap
  | .el r sz i j => match r with
    | .l k => .el (.l k) sz i j
    | .g k => match Nat.beq k id with
      | true => .undef
      | false => .el (.g k) sz i j
  | .mp r => match r with
    | .l k => .mp (.l k)
    | .g i => match Nat.beq i id with
      | true => .undef
      | false => .mp (.g i)
  | .undef => .undef
def fzL (id : Nat) (ab : AB) : List AV → List AV
  | [] => []
  | x :: r => x.fz id ab :: fzL id ab r
end
mutual
/-- What is to be shown: a slice of it lies in what it holds. -/
def AV.fzOK (id : Nat) (ab : AB) : AV → Prop
  | .agg cs => fzLOK id ab cs
  | .tup cs => fzLOK id ab cs
  | .fn _ cs => fzLOK id ab cs
  | .ifc _ x => x.fzOK id ab
  | .slc r sz off len _ => match r with
    | .l _ => True
    | .g i => match Nat.beq i id with
      | true => match ab with
        | .row _ rows => 0 < sz ∧ off + len ≤ rows.length
        | _ => True
      | false => True
  | _ => True
def fzLOK (id : Nat) (ab : AB) : List AV → Prop
  | [] => True
  | x :: r => x.fzOK id ab ∧ fzLOK id ab r
end
theorem fzL_len (id : Nat) (ab : AB) : ∀ (cs : List AV), (fzL id ab cs).length = cs.length
  | [] => rfl
  | x :: r => by simp [fzL, fzL_len id ab r]
theorem fzL_get {id : Nat} {ab : AB} : ∀ {cs : List AV} {j : Nat} {y : AV}, (fzL id ab cs)[j]? = some y → ∃ x, cs[j]? = some x ∧ y = x.fz id ab
  | [], j, y, h => by simp [fzL] at h
  | x :: r, 0, y, h => by simp only [fzL, List.getElem?_cons_zero, Option.some.injEq] at h; exact ⟨x, rfl, h.symm⟩
  | x :: r, j + 1, y, h => by
    simp only [fzL, List.getElem?_cons_succ] at h
    obtain ⟨x', h1, h2⟩ := fzL_get h
    exact ⟨x', by simpa using h1, h2⟩
theorem fzLOK_get {id : Nat} {ab : AB} : ∀ {cs : List AV} {j : Nat} {x : AV}, fzLOK id ab cs → cs[j]? = some x → x.fzOK id ab
  | [], j, x, _, h => by simp at h
  | y :: r, 0, x, h, hx => by
    simp only [fzLOK] at h
    simp at hx; subst hx; exact h.1
  | y :: r, j + 1, x, h, hx => by
    simp only [fzLOK] at h
    exact fzLOK_get h.2 (by simpa using hx)

theorem Yields.rdN {N : Nat → Prop} {sz : Nat} {u : Value} {rows : List (List DV)} (h : Yields F w sz u rows) (hsz : 0 < sz) (hF : ∀ b, F b → N b) (hN : ∀ ad m c, u = .slice (some ad) m c → rows ≠ [] → N ad.block) : RD N w (.list sz rows) u := by
  obtain ⟨A, c, vals, rfl, hc, hl, hr, hcell⟩ := h
  by_cases hz : rows = []
  · subst hz; exact .empty _ _ _
  · have hpos : 0 < rows.length := List.length_pos_iff.2 hz
    have hvp : 0 < vals.length := by rw [hl]; exact Nat.mul_pos hpos hsz
    obtain ⟨ad, rfl, h0⟩ := hcell 0 _ (List.getElem?_eq_getElem hvp)
    have hget : ∀ i j, i < rows.length → j < sz → ∃ v, vals[i * sz + j]? = some v := fun i j hi hj => ⟨_, List.getElem?_eq_getElem (by rw [hl]; exact idx_row hi hj)⟩
    refine .list sz rows ad c (fun i j => (vals[i * sz + j]?).getD Go.undef) hc (hN _ _ _ rfl hz) hr.len (fun i j hi hj => ?_) (fun i r hi j x hx => ?_)
    · obtain ⟨v, hv⟩ := hget i j hi hj
      obtain ⟨a', e, q⟩ := hcell _ v hv
      cases e
      simp [hv, q]
    · have hj : j < sz := by have := (List.getElem?_eq_some_iff.1 hx).1; have := hr.len i r hi; omega
      obtain ⟨v, hv⟩ := hget i j (List.getElem?_eq_some_iff.1 hi).1 hj
      simp only [hv, Option.getD_some]
      exact (hr.rd i r j x v hi hx hv).mono hF (fun _ _ => rfl)

/-- Of a value: where it names the object it is data. -/
theorem RV.fz (hS : St M F U L s w) {M0 : Mp} {id b : Nat} {ab : AB} (hid : sfind s id = some ab) (hb : M.g id = some b) (h0 : M0.g id = some b) (hle : M0.Le M) {F1 : Nat → Prop} (hF1 : ∀ c, F c → F1 c) {x : AV} {v : Value} (h : RV M0 F1 w x v) : x.fzOK id ab → RV M0 (fun c => F1 c ∨ c = b) w (x.fz id ab) v := by
  induction h with
  | d h => exact fun _ => .d (h.mono (fun _ h => .inl h) (fun _ _ => rfl))
  | agg cs vs hl h1 h ih =>
    intro hok
    simp only [AV.fzOK] at hok
    simp only [AV.fz]
    refine .agg _ vs (by rw [fzL_len]; exact hl) h1 fun j y u hy hu => ?_
    obtain ⟨x, hx, rfl⟩ := fzL_get hy
    exact ih j x u hx hu (fzLOK_get hok hx)
  | tup cs vs hl h ih =>
    intro hok
    simp only [AV.fzOK] at hok
    simp only [AV.fz]
    refine .tup _ vs (by rw [fzL_len]; exact hl) fun j y u hy hu => ?_
    obtain ⟨x, hx, rfl⟩ := fzL_get hy
    exact ih j x u hx hu (fzLOK_get hok hx)
  | fn f cs vs hl h ih =>
    intro hok
    simp only [AV.fzOK] at hok
    simp only [AV.fz]
    refine .fn f _ vs (by rw [fzL_len]; exact hl) fun j y u hy hu => ?_
    obtain ⟨x, hx, rfl⟩ := fzL_get hy
    exact ih j x u hx hu (fzLOK_get hok hx)
  | ifc t x v h ih => exact fun hok => .ifc t _ v (ih (by simpa only [AV.fzOK] using hok))
  | undef v => exact fun _ => .undef v
  | mp r b' hm =>
    intro _
    cases r with
    | l k => exact .mp _ b' hm
    | g i =>
      simp only [AV.fz]
      split
      · exact .undef _
      · exact .mp _ b' hm
  | el r sz i j b' hm =>
    intro _
    cases r with
    | l k => exact .el _ sz i j b' hm
    | g k =>
      simp only [AV.fz]
      split
      · exact .undef _
      · exact .el _ sz i j b' hm
  | ref r off b' hm =>
    intro _
    cases r with
    | l k => exact .ref _ off b' hm
    | g i =>
      simp only [AV.fz]
      split
      · rename_i hi
        have := beq_t hi
        subst this
        have : b' = b := by simp only [Mp.at_] at hm; rw [h0] at hm; exact (Option.some.inj hm).symm
        subst this
        split
        · rename_i cs
          split
          · rename_i ds hds
            obtain ⟨arr, t, hbk, hsz, hc⟩ := hS.rb (.g i) _ b' (sfind_mem hid) hb
            have hcs := undD_map hds
            subst hcs
            have hal : arr.size = ds.length := by simpa using hsz
            have := RD.ptr (N := fun c => F1 c ∨ c = b') (w := w) ds off ⟨b', 0, none⟩ (fun j => (arr[j]?).getD Go.undef) (.inr rfl) (fun j hj => by
              rw [add_plain]
              simp only [World.cell?, hbk, Nat.zero_add]
              simp [Array.getElem?_eq_getElem (show j < arr.size by omega)]) (fun j x hx => by
              have hj := (List.getElem?_eq_some_iff.1 hx).1
              have hu : arr[j]? = some arr[j] := Array.getElem?_eq_getElem (by omega)
              have h2 := (hc j (.d x) arr[j] (by rw [List.getElem?_map, hx]; rfl) hu).2
              rw [hu, Option.getD_some]
              cases h2 with | d h2 => exact h2.mono (fun _ h => .inl (hF1 _ h)) (fun _ _ => rfl))
            rw [add_plain, Nat.zero_add] at this
            exact .d this
          · exact .undef _
        · exact .undef _
      · exact .ref _ off b' hm
  | slc r sz off len cap b' hm hc hs =>
    intro hok
    cases r with
    | l k => exact .slc _ sz off len cap b' hm hc hs
    | g i =>
      simp only [AV.fz]
      simp only [AV.fzOK] at hok
      split
      · rename_i hi
        rw [hi] at hok
        have := beq_t hi
        subst this
        split
        · rename_i sz' rows
          simp only at hok
          split
          · rename_i hsz
            have hbb : (Nat.beq sz sz && Nat.beq sz' sz) = true := by simp [hsz]
            have hsk : srcK s sz (.slc (.g i) sz off len cap) (fun q => q = (rows.drop off).take len) := by
              simp only [srcK, hid, hbb]
              exact ⟨hok.2, trivial⟩
            obtain ⟨rows', hyl, he⟩ := srcK_yields (sz := sz) hS (RV.slc (M := M) (F := F) (w := w) (.g i) sz off len cap b' (hle _ _ hm) hc hs) hsk
            subst he
            have : b' = b := by simp only [Mp.at_] at hm; rw [h0] at hm; exact (Option.some.inj hm).symm
            subst this
            exact .d (hyl.rdN hok.1 (fun _ h => .inl (hF1 _ h)) (fun ad m c e _ => by cases e; exact .inr rfl))
          · exact .undef _
        · exact .undef _
      · exact .slc _ sz off len cap b' hm hc hs
  | slc0 r sz off A =>
    intro hok
    cases r with
    | l k => exact .slc0 _ sz off A
    | g i =>
      simp only [AV.fz]
      split
      · split
        · split
          · simp only [List.take_zero]
            exact .d (.empty _ _ _)
          · exact .undef _
        · exact .undef _
      · exact .slc0 _ sz off A

/-- Arguments, of which slices of our own are lent. -/
inductive Lend (s : List (Nat × AB)) : List AV → List AV → Prop
  | nil : Lend s [] []
  | s (x : AV) {r r' : List AV} (h : Lend s r r') : Lend s (x :: r) (x :: r')
  | n (sz : Nat) {r r' : List AV} (h : Lend s r r') : Lend s (.d .nil :: r) (.d (.list sz []) :: r')
  | e (sz : Nat) {r r' : List AV} (h : Lend s r r') : Lend s (.d .emp :: r) (.d (.list sz []) :: r')
  | fz (id : Nat) (ab : AB) {l l' : List AV} (hm : sfind s id = some ab) (hd : ab ≠ .dead) (hok : fzLOK id ab l) (h : Lend s (fzL id ab l) l') : Lend s l l'
  | own (id sz off len cap : Nat) (rows seg : List (List DV)) {r r' : List AV} (hm : sfind s id = some (.row sz rows)) (hle : off + len ≤ rows.length) (hsz : 0 < sz) (hseg : seg = (rows.drop off).take len) (h : Lend s r r') : Lend s (.slc (.g id) sz off len cap :: r) (.d (.list sz seg) :: r')
  | a {cs cs' r r' : List AV} (hc : Lend s cs cs') (h : Lend s r r') : Lend s (.agg cs :: r) (.agg cs' :: r')
theorem Lend.refl {s : List (Nat × AB)} : ∀ (l : List AV), Lend s l l
  | [] => .nil
  | x :: r => .s x (Lend.refl r)
theorem Lend.len {l l' : List AV} (h : Lend s l l') : l.length = l'.length := by
  induction h with
  | fz id ab hm hd hok h ih => rw [fzL_len] at ih; exact ih
  | _ => simp_all
theorem Lend.rv (hS : St M F U L s w) {l l' : List AV} {vals : List Value} (h : Lend s l l') (hv : ∀ (j : Nat) (x : AV) (v : Value), l[j]? = some x → vals[j]? = some v → RV M (fun b => b < w.heap.size) w x v) :
    ∀ (j : Nat) (x : AV) (v : Value), l'[j]? = some x → vals[j]? = some v → RV M (fun b => b < w.heap.size) w x v := by
  have hF : ∀ b, F b → b < w.heap.size := fun b hb => hS.Ult b (hS.FU b hb)
  induction h generalizing vals with
  | nil => intro j x v h; simp at h
  | s x h ih =>
    intro j y v hy hv'
    cases j with
    | zero =>
      simp at hy; subst hy
      exact hv 0 _ v (by simp) hv'
    | succ j =>
      cases vals with
      | nil => simp at hv'
      | cons u us => exact ih (fun j' x' v' hx' hvv => hv (j' + 1) x' v' (by simpa using hx') (by simpa using hvv)) j y v (by simpa using hy) (by simpa using hv')
  | n sz h ih =>
    intro j y v hy hv'
    cases j with
    | zero =>
      simp at hy; subst hy
      rw [(hv 0 _ v (by simp) hv').nil_inv]
      exact .d (.empty _ _ _)
    | succ j =>
      cases vals with
      | nil => simp at hv'
      | cons u us => exact ih (fun j' x' v' hx' hvv => hv (j' + 1) x' v' (by simpa using hx') (by simpa using hvv)) j y v (by simpa using hy) (by simpa using hv')
  | e sz h ih =>
    intro j y v hy hv'
    cases j with
    | zero =>
      simp at hy; subst hy
      have := hv 0 (.d .emp) v rfl hv'
      cases this with | d this => cases this with | emp A => exact .d (.empty _ _ _)
    | succ j =>
      cases vals with
      | nil => simp at hv'
      | cons u us => exact ih (fun j' x' v' hx' hvv => hv (j' + 1) x' v' (by simpa using hx') (by simpa using hvv)) j y v (by simpa using hy) (by simpa using hv')
  | fz id ab hm hd hok h ih =>
    intro j y v hy hv'
    obtain ⟨b, hb⟩ := hS.tot id ab (sfind_mem hm)
    have hbl : b < w.heap.size := hS.lt (r := .g id) (sfind_mem hm) hd hb
    refine ih (fun j' x' v' hx' hvv => ?_) j y v hy hv'
    obtain ⟨x, hx, rfl⟩ := fzL_get hx'
    refine (RV.fz hS hm hb hb (.refl M) hF (hv j' x v' hx hvv) (fzLOK_get hok hx)).mono (U := fun b => b < w.heap.size) (.refl _) (fun c hc => ?_) (fun c hc => ?_) ⟨rfl, rfl, rfl, Nat.le_refl _, fun _ _ => rfl, fun _ _ => rfl⟩
    · rcases hc with h | rfl
      · exact h
      · exact hbl
    · rcases hc with h | rfl
      · exact h
      · exact hbl
  | a hc h ihc ih =>
    intro j y v hy hv'
    cases j with
    | zero =>
      simp at hy
      subst hy
      have := hv 0 _ v rfl hv'
      cases this with
      | agg _ vs hl h1 hvs => exact .agg _ vs (by rw [hl, hc.len]) h1 (fun j x u hx hu => ihc (vals := vs) (fun j x u hx hu => hvs j x u hx hu) j x u hx hu)
    | succ j =>
      cases vals with
      | nil => simp at hv'
      | cons u us => exact ih (fun j' x' v' hx' hvv => hv (j' + 1) x' v' (by simpa using hx') (by simpa using hvv)) j y v (by simpa using hy) (by simpa using hv')
  | own id sz off len cap rows seg hm hle hsz hseg h ih =>
    intro j y v hy hv'
    cases j with
    | zero =>
      simp at hy; subst hy
      subst hseg
      have h1 : RV M F w (.slc (.g id) sz off len cap) v := by
        have h1 := hv 0 (.slc (.g id) sz off len cap) v rfl hv'
        cases h1 with
        | slc _ _ _ _ _ b hm hc hs => exact .slc _ _ _ _ _ b hm hc hs
        | slc0 _ _ _ A => exact .slc0 _ _ _ A
      have hb : (Nat.beq sz sz && Nat.beq sz sz) = true := by simp
      have hsk : srcK s sz (.slc (.g id) sz off len cap) (fun q => q = (rows.drop off).take len) := by
        simp only [srcK, hm, hb]
        exact ⟨hle, trivial⟩
      obtain ⟨rows', hyl, he⟩ := srcK_yields (sz := sz) hS h1 hsk
      subst he
      exact .d (hyl.rd hsz hF)
    | succ j =>
      cases vals with
      | nil => simp at hv'
      | cons u us => exact ih (fun j' x' v' hx' hvv => hv (j' + 1) x' v' (by simpa using hx') (by simpa using hvv)) j y v (by simpa using hy) (by simpa using hv')

mutual
def AV.scal : AV → Bool
  | .d (.int _ _) => true
  | .d (.bool _) => true
  | .d (.str _) => true
  | .d (.raw _) => true
  | .d .nil => true
  | .agg cs => scalL cs
  | .tup cs => scalL cs
  | .undef => true
  | _ => false
def scalL : List AV → Bool
  | [] => true
  | x :: r => x.scal && scalL r
end
theorem scalL_at : ∀ {cs : List AV} {j : Nat} {x : AV}, scalL cs = true → cs[j]? = some x → x.scal = true
  | [], j, x, _, hx => by simp at hx
  | c :: r, 0, x, h, hx => by
    simp only [scalL, Bool.and_eq_true] at h
    simp at hx
    subst hx
    exact h.1
  | c :: r, j + 1, x, h, hx => by
    simp only [scalL, Bool.and_eq_true] at h
    exact scalL_at h.2 (by simpa using hx)
theorem RV.scal {M M' : Mp} {F F' : Nat → Prop} {w w' : World} {x : AV} {v : Value} (h : RV M F w x v) : x.scal = true → RV M' F' w' x v := by
  induction h with
  | d h =>
    intro hc
    cases h <;> first | (cases hc; done) | skip
    · exact .d (.int _ _)
    · exact .d (.bool _)
    · exact .d (.str _)
    · exact .d (.raw _ ‹_›)
    · exact .d .nil
  | agg cs vs hl h1 h ih => exact fun hc => .agg cs vs hl h1 fun j x v hx hv => ih j x v hx hv (scalL_at (by simpa [AV.scal] using hc) hx)
  | tup cs vs hl h ih => exact fun hc => .tup cs vs hl fun j x v hx hv => ih j x v hx hv (scalL_at (by simpa [AV.scal] using hc) hx)
  | undef v => exact fun _ => .undef v
  | _ => intro hc; cases hc

theorem nrL_at {l : List AV} (h : nrL l = true) {j : Nat} {x : AV} (hx : l[j]? = some x) : ∃ y, x.rn (fun _ => none) = some y := by
  unfold nrL at h
  split at h <;> try cases h
  rename_i l' hl'
  obtain ⟨k1, k2⟩ := rnL_get hl'
  have hj := (List.getElem?_eq_some_iff.1 hx).1
  obtain ⟨y, hy, hy'⟩ := k2 j l'[j] (List.getElem?_eq_getElem (by omega))
  rw [hx] at hy
  cases hy
  exact ⟨_, hy'⟩
/-- A call that only reads, of what we lend it; its answer holds no memory. -/
theorem pj_call_lend {c : Operand} {args : Array Operand} {tys : Array TypeId} {f : Nat} {caps : List AV} {v : AV}
    (ho : o.op = .call { callee := .value c, args := args, argTypes := tys }) (hc : rh c = .fn f caps)
    {args' : List AV} (hw : Lend s (args.toList.map rh ++ caps) args') (hcl : nrL args' = true) (hvs : v.scal = true) (hC : Contract P G f args' [] (fun r t => r = v ∧ t = [])) : PJ P G o rh L s v [] := by
  intro M F U w a hS hG hx
  obtain ⟨vals, hrun, hl, hv⟩ := run_call ho hc hC.1 hx
  have hF : ∀ b, F b → b < w.heap.size := fun b hb => hS.Ult b (hS.FU b hb)
  have hX0 : Ext (fun b => b < w.heap.size) w w := ⟨rfl, rfl, rfl, Nat.le_refl _, fun _ _ => rfl, fun _ _ => rfl⟩
  have hargs : ∀ (j : Nat) (x : AV) (u : Value), args'[j]? = some x → vals[j]? = some u → RV ⟨fun _ => none, fun _ => none⟩ (fun b => b < w.heap.size) w x u := fun j x u hx hu => by
    obtain ⟨y, hy⟩ := nrL_at hcl hx
    exact nr_rv (hw.rv hS (fun j x v hx hvv => (hv j x v hx hvv).mono (.refl _) hF hF hX0) j x u hx hu) hy
  have hS0 : St ⟨fun _ => none, fun _ => none⟩ (fun b => b < w.heap.size) (fun b => b < w.heap.size) [] [] w :=
    ⟨fun r ab b hr hm => by cases r <;> simp [Here] at hr, fun r r' a1 a2 b hr => by cases r <;> simp [Here] at hr, fun r ab b hr => by cases r <;> simp [Here] at hr, .nil, fun b h => h, fun b h => h, fun _ _ => rfl, fun id ab h => (by simp at h), fun _ _ => rfl⟩
  have hcall := hC.2 (fun _ => none) (fun b => b < w.heap.size) (fun b => b < w.heap.size) w vals hS0 (hG.mono hF hF hX0) (by rw [hl, hw.len]) hargs
  unfold Oper.wp
  rw [hrun]
  simp only [Oper.upon]
  refine hcall.mono ?_
  rintro e w' ⟨val, res, s1, g', F', U', rfl, ⟨rfl, rfl⟩, _, _, _, _, _, hX, _, hrv⟩
  have hXU : Ext U w w' := hX.mono hS.Ult
  refine ⟨val, M, F, U, rfl, .refl M, fun _ _ => rfl, fun k b hk hb => ?_, fun _ h => h, fun _ h => h, fun _ h => .inl h, fun _ h => .inl h, hX, ?_, hrv.scal hvs⟩
  · rw [hS.dom k hk] at hb; cases hb
  · rw [List.append_nil]
    refine ⟨fun r ab b hr hm => (hS.rb r ab b hr hm).mono (.refl _) (fun _ h => h) hF hX (fun hd => hX.block b (hS.lt hr hd hm)), hS.inj, hS.nU, hS.nd, hS.FU, fun b hb => Nat.lt_of_lt_of_le (hS.Ult b hb) hX.size, hS.dom, hS.tot, hS.gdom⟩
theorem below_shape {w w' : World} (h : Below w.heap.size w w') {b : Nat} (hb : b < w.heap.size) : w'.shape? b = w.shape? b := by
  unfold World.shape?
  rw [h.block b hb]
theorem below_ext {w w' : World} (h : Below w.heap.size w w') : Ext (fun b => b < w.heap.size) w w' :=
  ⟨h.os, h.tape, h.output, h.size, fun b hb => h.block b hb, fun _ hb => below_shape h hb⟩
/-- What only reads, whatever it reads: nothing that was there has turned. -/
def Reads (P : Program) (G : Gl) (s : List (Nat × AB)) (g : Nat) (args : List AV) (v : AV) : Prop :=
  (∀ vs w, (callFunc g vs).run P w = .ok (.enter g vs) w) ∧
  ∀ (M : Mp) (F U : Nat → Prop) (L : List AB) (w : World) (vals : List Value), St M F U L s w → Glob G F w → vals.length = args.length → (∀ (j : Nat) (x : AV) (u : Value), args[j]? = some x → vals[j]? = some u → RV M F w x u) →
    Calls P g vals.toArray w fun e w' => ∃ val, e = .returned val ∧ RV M F w' v val ∧ Below w.heap.size w w'
theorem pj_read {c : Operand} {args : Array Operand} {tys : Array TypeId} {f : Nat} {caps : List AV} {v : AV}
    (ho : o.op = .call { callee := .value c, args := args, argTypes := tys }) (hc : rh c = .fn f caps) (hR : Reads P G s f (args.toList.map rh ++ caps) v) : PJ P G o rh L s v [] := by
  intro M F U w a hS hG hx
  obtain ⟨vals, hrun, hl, hv⟩ := run_call ho hc hR.1 hx
  have hF : ∀ b, F b → b < w.heap.size := fun b hb => hS.Ult b (hS.FU b hb)
  have hcall := hR.2 M F U L w vals hS hG hl hv
  unfold Oper.wp
  rw [hrun]
  simp only [Oper.upon]
  refine hcall.mono ?_
  rintro e w' ⟨val, rfl, hrv, hB⟩
  have hX := below_ext hB
  refine ⟨val, M, F, U, rfl, .refl M, fun _ _ => rfl, fun k b hk hb => ?_, fun _ h => h, fun _ h => h, fun _ h => .inl h, fun _ h => .inl h, hX, ?_, hrv⟩
  · rw [hS.dom k hk] at hb; cases hb
  · rw [List.append_nil]
    refine ⟨fun r ab b hr hm => (hS.rb r ab b hr hm).mono (.refl _) (fun _ h => h) hF hX (fun hd => hX.block b (hS.lt hr hd hm)), hS.inj, hS.nU, hS.nd, hS.FU, fun b hb => Nat.lt_of_lt_of_le (hS.Ult b hb) hX.size, hS.dom, hS.tot, hS.gdom⟩
/-- What makes blocks of its own, and turns nothing that was there. -/
def ReadsN (P : Program) (G : Gl) (L : List AB) (s : List (Nat × AB)) (g : Nat) (args : List AV) (v : AV) (new : List AB) : Prop :=
  (∀ vs w, (callFunc g vs).run P w = .ok (.enter g vs) w) ∧
  ∀ (M : Mp) (F U : Nat → Prop) (w : World) (vals : List Value), St M F U L s w → Glob G F w → vals.length = args.length → (∀ (j : Nat) (x : AV) (u : Value), args[j]? = some x → vals[j]? = some u → RV M F w x u) →
    Calls P g vals.toArray w fun e w' => ∃ val M' F' U', e = .returned val ∧ Grew M F U w L s new v val M' F' U' w'
theorem pj_grow {c : Operand} {args : Array Operand} {tys : Array TypeId} {f : Nat} {caps : List AV} {v : AV} {new : List AB}
    (ho : o.op = .call { callee := .value c, args := args, argTypes := tys }) (hc : rh c = .fn f caps) (hR : ReadsN P G L s f (args.toList.map rh ++ caps) v new) : PJ P G o rh L s v new := by
  intro M F U w a hS hG hx
  obtain ⟨vals, hrun, hl, hv⟩ := run_call ho hc hR.1 hx
  have hcall := hR.2 M F U w vals hS hG hl hv
  unfold Oper.wp
  rw [hrun]
  simp only [Oper.upon]
  refine hcall.mono ?_
  rintro e w' ⟨val, M', F', U', rfl, hg⟩
  exact ⟨val, M', F', U', rfl, hg⟩
theorem grew_same_below {M : Mp} {F U : Nat → Prop} {w w' : World} {v : AV} {val : Value} (hS : St M F U L s w) (hB : Below w.heap.size w w') {N : Nat → Prop} (hN : ∀ b, N b → w.heap.size ≤ b ∧ b < w'.heap.size) (hv : RV M (fun b => F b ∨ N b) w' v val) :
    Grew M F U w L s [] v val M (fun b => F b ∨ N b) (fun b => U b ∨ N b) w' := by
  have hF : ∀ b, F b → b < w.heap.size := fun b hb => hS.Ult b (hS.FU b hb)
  have hX := below_ext hB
  refine ⟨.refl M, fun _ _ => rfl, fun k b hk hb => ?_, fun _ h => .inl h, fun _ h => .inl h, fun b hb => hb.imp id (fun h => (hN b h).1), fun b hb => hb.imp id (fun h => (hN b h).1), hX, ?_, hv⟩
  · rw [hS.dom k hk] at hb; cases hb
  · rw [List.append_nil]
    refine ⟨fun r ab b hr hm => (hS.rb r ab b hr hm).mono (.refl _) (fun _ h => .inl h) hF hX (fun hd => hX.block b (hS.lt hr hd hm)), hS.inj, fun r ab b hr hd hm hu => ?_, hS.nd, fun b hb => hb.imp (hS.FU b) id, fun b hb => ?_, hS.dom, hS.tot, hS.gdom⟩
    · rcases hu with h | h
      · exact hS.nU r ab b hr hd hm h
      · have := hS.lt hr hd hm; have := (hN b h).1; omega
    · rcases hb with h | h
      · exact Nat.lt_of_lt_of_le (hS.Ult b h) hX.size
      · exact (hN b h).2
theorem Reads.toN {f : Nat} {args : List AV} {v : AV} (h : Reads P G s f args v) : ReadsN P G L s f args v [] := by
  refine ⟨h.1, fun M F U w vals hS hG hl hv => (h.2 M F U L w vals hS hG hl hv).mono ?_⟩
  rintro e w' ⟨val, rfl, hrv, hB⟩
  have hg := grew_same_below (N := fun _ => False) hS hB (fun _ h => h.elim) (by simpa using hrv)
  exact ⟨val, _, _, _, rfl, hg⟩
/-- One block more, made by a call. -/
theorem grew_made {M : Mp} {F U : Nat → Prop} {w w' : World} {v : AV} {val : Value} {b0 : Nat} {ab0 : AB} (hS : St M F U L s w) (hB : Below w.heap.size w w') (hb0 : w.heap.size ≤ b0)
    (hab : ∀ M', M.Le M' → RB M' F w' b0 ab0) (hv : ∀ M', M.Le M' → M'.l L.length = some b0 → RV M' F w' v val) :
    Grew M F U w L s [ab0] v val (M.put L.length b0) F U w' := by
  have hle : M.Le (M.put L.length b0) := by
    intro r b h
    cases r with
    | g i => exact h
    | l k =>
      simp only [Mp.at_, Mp.put] at h ⊢
      by_cases e : k = L.length
      · subst e; rw [hS.dom _ (Nat.le_refl _)] at h; cases h
      · rw [if_neg e]; exact h
  have hx := below_ext hB
  have hold : ∀ r, (∀ k, r = .l k → k < L.length) → (M.put L.length b0).at_ r = M.at_ r := by
    intro r hr
    cases r with
    | g i => rfl
    | l k => simp only [Mp.at_, Mp.put]; rw [if_neg (by have := hr k rfl; omega)]
  have hFU : ∀ b, F b → b < w.heap.size := fun b hb => hS.Ult b (hS.FU b hb)
  refine ⟨hle, fun k hk => hold (.l k) (fun j e => by cases e; exact hk), fun k b hk hb' => ?_, fun _ h => h, fun _ h => h, fun _ h => .inl h, fun _ h => .inl h, hx, ?_, hv _ hle (by simp [Mp.put])⟩
  · simp only [Mp.put] at hb'
    split at hb'
    · cases hb'; exact hb0
    · rw [hS.dom k hk] at hb'; cases hb'
  · refine ⟨fun r ab' b hr hm => ?_, fun r r' a1 a2 b h1 h2 d1 d2 m1 m2 => ?_, fun r a1 b h1 d1 m1 hu => ?_, hS.nd, hS.FU, fun b hb' => Nat.lt_of_lt_of_le (hS.Ult b hb') hx.size, fun k hk => ?_, hS.tot, hS.gdom⟩
    · rcases here_append hr with ⟨h1, h2⟩ | ⟨rfl, rfl⟩
      · rw [hold r h2] at hm
        refine (hS.rb r ab' b h1 hm).mono (hle.sub r) (fun _ h => h) hFU hx (fun hd => hx.block b (hS.lt h1 hd hm))
      · simp only [Mp.at_, Mp.put, if_true] at hm
        cases hm
        exact hab _ hle
    · rcases here_append h1 with ⟨e1, k1⟩ | ⟨rfl, rfl⟩ <;> rcases here_append h2 with ⟨e2, k2⟩ | ⟨rfl, rfl⟩
      · rw [hold r k1] at m1; rw [hold r' k2] at m2
        exact hS.inj r r' a1 a2 b e1 e2 d1 d2 m1 m2
      · rw [hold r k1] at m1
        simp only [Mp.at_, Mp.put, if_true] at m2
        cases m2
        have := hS.lt e1 d1 m1
        omega
      · rw [hold r' k2] at m2
        simp only [Mp.at_, Mp.put, if_true] at m1
        cases m1
        have := hS.lt e2 d2 m2
        omega
      · rfl
    · rcases here_append h1 with ⟨e1, k1⟩ | ⟨rfl, rfl⟩
      · rw [hold r k1] at m1
        exact hS.nU r a1 b e1 d1 m1 hu
      · simp only [Mp.at_, Mp.put, if_true] at m1
        cases m1
        have := hS.Ult _ hu
        omega
    · have hk1 : L.length ≤ k := by simp only [List.length_append, List.length_cons, List.length_nil] at hk; omega
      have hk2 : k ≠ L.length := by simp only [List.length_append, List.length_cons, List.length_nil] at hk; omega
      show (if k = L.length then some b0 else M.l k) = none
      rw [if_neg hk2]
      exact hS.dom k hk1
end
end Go.Pv
/- Telling in full before one goes on: what is told stays small. -/
namespace Go.Pv
open Go.RowKit

def fN (n : Nat) (K : Nat → Prop) : Prop := match n with
  | 0 => K 0
  | m + 1 => K (m + 1)
theorem fN_eq (n : Nat) (K : Nat → Prop) : fN n K = K n := by cases n <;> rfl
def lits : List Nat := [0, 1, 2, 3, 4, 5, 6, 7, 8, 9, 10, 11, 12, 13, 14, 15, 16, 17, 18, 19, 20, 21, 22, 23, 24, 25, 26, 27, 28, 29, 30, 31, 32, 33, 34, 35, 36, 37, 38, 39, 40, 41, 42, 43, 44, 45, 46, 47]
/-- How long a list is, as a literal. -/
def fLen {α : Type} : List α → List Nat → Nat → (Nat → Prop) → Prop
  | [], [], m, K => K m
  | [], l :: _, m, K => match Nat.beq l m with
    | true => K l
    | false => K m
  | _ :: r, [], m, K => fLen r [] (m + 1) K
  | _ :: r, _ :: ls, m, K => fLen r ls (m + 1) K
theorem fLen_eq {α : Type} (K : Nat → Prop) : ∀ (xs : List α) (ls : List Nat) (m : Nat), fLen xs ls m K = K (xs.length + m)
  | [], [], m => by simp [fLen]
  | [], l :: _, m => by
    simp only [fLen]
    split
    · rename_i h
      rw [Nat.eq_of_beq_eq_true h]
      simp
    · simp
  | _ :: r, [], m => by
    simp only [fLen]
    rw [fLen_eq K r [] (m + 1)]
    simp [Nat.add_comm, Nat.add_left_comm]
  | _ :: r, _ :: ls, m => by
    simp only [fLen]
    rw [fLen_eq K r ls (m + 1)]
    simp [Nat.add_comm, Nat.add_left_comm]
def appF {α : Type} : List α → List α → (List α → Prop) → Prop
  | [], new, K => K new
  | x :: r, new, K => appF r new fun l => K (x :: l)
theorem appF_eq {α : Type} : ∀ (xs new : List α) (K : List α → Prop), appF xs new K = K (xs ++ new)
  | [], _, _ => rfl
  | x :: r, new, K => by simp [appF, appF_eq r new]
def nums : List Nat := [0, 1, 2, 3, 4, 5, 6, 7, 8, 9, 10, 11, 12, 13, 14, 15, 16, 17, 18, 19, 20, 21, 22, 23, 24, 25, 26, 27, 28, 29, 30, 31, 32, 33, 34, 35, 36, 37, 38, 39, 40, 41, 42, 43, 44, 45, 46, 47, 48, 49, 50, 51, 52, 53, 54, 55, 56, 57, 58, 59, 60, 61, 62, 63, 64, 65, 66, 67, 68, 69, 70, 71, 72, 73, 74, 75, 76, 77, 78, 79, 80, 81, 82, 83, 84, 85, 86, 87, 88, 89, 90, 91, 92, 93, 94, 95, 96, 97, 98, 99, 100, 101, 102, 103, 104, 105, 106, 107, 108, 109, 110, 111, 112, 113, 114, 115, 116, 117, 118, 119, 120, 121, 122, 123, 124, 125, 126, 127]
/-- A number as a numeral. -/
def fLit (n : Nat) : List Nat → (Nat → Prop) → Prop
  | [], K => K n
  | l :: r, K => match Nat.beq l n with
    | true => K l
    | false => fLit n r K
theorem fLit_eq (n : Nat) : ∀ (l : List Nat) (K : Nat → Prop), fLit n l K = K n
  | [], _ => rfl
  | l :: r, K => by
    simp only [fLit]
    split
    · rename_i h; rw [Nat.eq_of_beq_eq_true h]
    · exact fLit_eq n r K

/-- The same, its number told first. -/
def fNum (n : Nat) (K : Nat → Prop) : Prop := fN n fun n => fLit n nums K
theorem fNum_eq (n : Nat) (K : Nat → Prop) : fNum n K = K n := by unfold fNum; rw [fN_eq, fLit_eq]
def fDV (x : DV) (K : DV → Prop) : Prop := match x with
  | .int k n => K (.int k n)
  | .bool b => K (.bool b)
  | .str s => K (.str s)
  | .raw v => K (.raw v)
  | .nil => K .nil
  | .emp => K .emp
  | .list sz rows => fNum sz fun sz => K (.list sz rows)
  | .ptr cells off => fNum off fun off => K (.ptr cells off)
  | .iface t x => K (.iface t x)
theorem fDV_eq (x : DV) (K : DV → Prop) : fDV x K = K x := by cases x <;> simp only [fDV, fNum_eq]
def fRow : List DV → (List DV → Prop) → Prop
  | [], K => K []
  | x :: r, K => fDV x fun x => fRow r fun r => K (x :: r)
theorem fRow_eq : ∀ (xs : List DV) (K : List DV → Prop), fRow xs K = K xs
  | [], _ => rfl
  | x :: r, K => by simp only [fRow, fDV_eq, fRow_eq r]
def fRows : List (List DV) → (List (List DV) → Prop) → Prop
  | [], K => K []
  | x :: r, K => fRow x fun x => fRows r fun r => K (x :: r)
theorem fRows_eq : ∀ (xs : List (List DV)) (K : List (List DV) → Prop), fRows xs K = K xs
  | [], _ => rfl
  | x :: r, K => by simp only [fRows, fRow_eq, fRows_eq r]
mutual
def fAV : Nat → AV → (AV → Prop) → Prop
  | 0, x, K => K x
  | n + 1, x, K => match x with
    | .d x => fDV x fun x => K (.d x)
    | .agg cs => fAVs n cs fun cs => K (.agg cs)
    | .tup cs => fAVs n cs fun cs => K (.tup cs)
    | .ref r off => fNum off fun off => K (.ref r off)
    | .slc r sz off len cap => fNum sz fun sz => K (.slc r sz off len cap)
    | .el r sz i j => fNum sz fun sz => fNum j fun j => K (.el r sz i j)
    | .mp r => K (.mp r)
    | .fn f cs => fAVs n cs fun cs => K (.fn f cs)
    | .ifc t x => fAV n x fun x => K (.ifc t x)
    | .undef => K .undef
def fAVs : Nat → List AV → (List AV → Prop) → Prop
  | 0, xs, K => K xs
  | n + 1, xs, K => match xs with
    | [] => K []
    | x :: r => fAV n x fun x => fAVs n r fun r => K (x :: r)
end
mutual
theorem fAV_eq : ∀ (n : Nat) (x : AV) (K : AV → Prop), fAV n x K = K x
  | 0, x, K => by simp only [fAV]
  | n + 1, x, K => by
    unfold fAV
    cases x <;> simp only [fDV_eq, fAVs_eq n, fAV_eq n, fNum_eq]
theorem fAVs_eq : ∀ (n : Nat) (xs : List AV) (K : List AV → Prop), fAVs n xs K = K xs
  | 0, x, K => by simp only [fAVs]
  | n + 1, xs, K => by
    unfold fAVs
    cases xs <;> simp only [fAVs_eq n, fAV_eq n]
end
def fAB (x : AB) (K : AB → Prop) : Prop := match x with
  | .cells cs => fAVs 100 cs fun cs => K (.cells cs)
  | .row sz rows => fNum sz fun sz => K (.row sz rows)
  | .arow sz rows => fNum sz fun sz => K (.arow sz rows)
  | .map es => K (.map es)
  | .dmap es => K (.dmap es)
  | .dead => K .dead
theorem fAB_eq (x : AB) (K : AB → Prop) : fAB x K = K x := by cases x <;> simp only [fAB, fAVs_eq, fNum_eq]
def fABs : List AB → (List AB → Prop) → Prop
  | [], K => K []
  | x :: r, K => fAB x fun x => fABs r fun r => K (x :: r)
theorem fABs_eq : ∀ (xs : List AB) (K : List AB → Prop), fABs xs K = K xs
  | [], _ => rfl
  | x :: r, K => by simp only [fABs, fAB_eq, fABs_eq r]
/-- The memory behind an operation. -/
def fApp (L new : List AB) (K : List AB → Prop) : Prop := match new with
  | [] => K L
  | _ :: _ => fABs new fun new => appF L new K
theorem fApp_eq (L new : List AB) (K : List AB → Prop) : fApp L new K = K (L ++ new) := by
  cases new with
  | nil => simp [fApp]
  | cons x r => simp only [fApp, fABs_eq, appF_eq]
def fSt : List (Nat × AB) → (List (Nat × AB) → Prop) → Prop
  | [], K => K []
  | (id, x) :: r, K => fAB x fun x => fSt r fun r => K ((id, x) :: r)
theorem fSt_eq : ∀ (xs : List (Nat × AB)) (K : List (Nat × AB) → Prop), fSt xs K = K xs
  | [], _ => rfl
  | (id, x) :: r, K => by simp only [fSt, fAB_eq, fSt_eq r]
def fG : List (Nat × Bool) → (List (Nat × Bool) → Prop) → Prop
  | [], K => K []
  | (j, p) :: r, K => fG r fun r => K ((j, p) :: r)
theorem fG_eq : ∀ (xs : List (Nat × Bool)) (K : List (Nat × Bool) → Prop), fG xs K = K xs
  | [], _ => rfl
  | (j, p) :: r, K => by simp only [fG, fG_eq r]
def fO (o : Option Nat) (K : Option Nat → Prop) : Prop := match o with
  | none => K none
  | some d => K (some d)
theorem fO_eq (o : Option Nat) (K : Option Nat → Prop) : fO o K = K o := by cases o <;> rfl
end Go.Pv
/- The lesser, the greater of two ints. -/
namespace Go.Pv
open Go.RowKit
variable {P : Program} {G : Gl} {T : Nat → Option TI} {o : Oper} {rh : Operand → AV} {L : List AB} {s : List (Nat × AB)}
theorem int_of {M : Mp} {F : Nat → Prop} {w : World} {k : IntKind} {n : Int} {v : Value} (h : RV M F w (.d (.int k n)) v) : v = .int k n := by
  cases h with
  | d h => cases h; rfl
theorem pj_min {x y : Operand} {tys : Array TypeId} {k k2 : IntKind} {a b : Int} (ho : o.op = .call { callee := .builtin .min, args := #[x, y], argTypes := tys }) (hx1 : rh x = .d (.int k a)) (hy1 : rh y = .d (.int k2 b)) : PJ P G o rh L s (.d (.int k (if b < a then b else a))) [] := by
  refine pj_value fun M F U w act hS hG hx => ⟨.int k (if b < a then b else a), ?_, .d (.int _ _)⟩
  have h1 := hx x (by simp [ho, Op.operands, Call.operands])
  have h2 := hx y (by simp [ho, Op.operands, Call.operands])
  rw [hx1] at h1
  rw [hy1] at h2
  have e1 := int_of h1
  have e2 := int_of h2
  simp only [execOp, ho, resolve, invoke, builtin, Sem.run_bind, Sem.run_pure, Result.andThen_ok, List.map_toArray, List.map_cons, List.map_nil, e1, e2, Builtin.min_, List.foldlM, Builtin.min2]
theorem pj_max {x y : Operand} {tys : Array TypeId} {k k2 : IntKind} {a b : Int} (ho : o.op = .call { callee := .builtin .max, args := #[x, y], argTypes := tys }) (hx1 : rh x = .d (.int k a)) (hy1 : rh y = .d (.int k2 b)) : PJ P G o rh L s (.d (.int k (if b > a then b else a))) [] := by
  refine pj_value fun M F U w act hS hG hx => ⟨.int k (if b > a then b else a), ?_, .d (.int _ _)⟩
  have h1 := hx x (by simp [ho, Op.operands, Call.operands])
  have h2 := hx y (by simp [ho, Op.operands, Call.operands])
  rw [hx1] at h1
  rw [hy1] at h2
  have e1 := int_of h1
  have e2 := int_of h2
  simp only [execOp, ho, resolve, invoke, builtin, Sem.run_bind, Sem.run_pure, Result.andThen_ok, List.map_toArray, List.map_cons, List.map_nil, e1, e2, Builtin.max_, List.foldlM, Builtin.max2]
end Go.Pv
/- Strings: put together, their bytes, their parts, how long they are. -/
namespace Go.Pv
open Go.RowKit
section
variable {P : Program} {G : Gl} {T : Nat → Option TI} {o : Oper} {rh : Operand → AV} {L : List AB} {s : List (Nat × AB)}
theorem pj_sadd {t ty : TypeId} {x y : Operand} {a1 b1 : ByteArray} (ho : o.op = .binOp .add t x y ty) (hx1 : rh x = .d (.str a1)) (hy1 : rh y = .d (.str b1)) (h : a1.size + b1.size ≤ 9223372036854775807) : PJ P G o rh L s (.d (.str (a1 ++ b1))) [] := by
  refine pj_value fun M F U w a hS hG hx => ?_
  have h1 := hx x (by simp [ho, Op.operands])
  have h2 := hx y (by simp [ho, Op.operands])
  rw [hx1] at h1; rw [hy1] at h2
  refine ⟨.string (a1 ++ b1), ?_, .d (.str _)⟩
  simp only [execOp, ho, h1.str_inv, h2.str_inv]
  rw [Sem.run_bind, run_sadd h]; rfl
theorem pj_slen (hT : TabOK P T) {t : TypeId} {ti : TI} (ht : T t = some ti) (hu : ti.u = .string) {x : Operand} {b : ByteArray} (ho : o.op = .call { callee := .builtin .len, args := #[x], argTypes := #[t] }) (hx1 : rh x = .d (.str b)) : PJ P G o rh L s (.d (.int .i64 (b.size : Int))) [] := by
  refine pj_value fun M F U w a hS hG hx => ⟨.int .i64 (b.size : Int), ?_, .d (.int _ _)⟩
  obtain ⟨h1, _⟩ := hT t ti ht
  have h2 := hx x (by simp [ho, Op.operands, Call.operands])
  rw [hx1] at h2
  simp only [execOp, ho, resolve, invoke, builtin, Sem.run_bind, Sem.run_pure, Result.andThen_ok, List.map_toArray, List.map_cons, List.map_nil, h2.str_inv, Builtin.len_]
  simp [run_underlying' h1, hu, goInt]
theorem pj_sindex (hT : TabOK P T) {t : TypeId} {ti : TI} (ht : T t = some ti) (hu : ti.u = .string) {x y : Operand} {k : IntKind} {n : Int} {b : ByteArray} {c : UInt8} (ho : o.op = .index t x y) (hx1 : rh x = .d (.str b)) (hy1 : rh y = .d (.int k n)) (h0 : 0 ≤ n) (hc : b.data.toList[n.toNat]? = some c) :
    PJ P G o rh L s (.d (.int .u8 (c.toNat : Int))) [] := by
  refine pj_value fun M F U w a hS hG hx => ⟨.int .u8 (c.toNat : Int), ?_, .d (.int _ _)⟩
  obtain ⟨h1, _⟩ := hT t ti ht
  have h2 := hx x (by simp [ho, Op.operands])
  have h3 := hx y (by simp [ho, Op.operands])
  rw [hx1] at h2; rw [hy1] at h3
  have hb : b[n.toNat]? = some c := by
    rw [← hc]
    by_cases hlt : n.toNat < b.size
    · have e1 : b[n.toNat]? = some b[n.toNat] := getElem?_pos b n.toNat hlt
      rw [e1]
      have hlt2 : n.toNat < b.data.toList.length := by rw [Array.length_toList]; exact hlt
      rw [List.getElem?_eq_getElem hlt2]
      rfl
    · have e1 : b[n.toNat]? = none := getElem?_neg b n.toNat hlt
      rw [e1, List.getElem?_eq_none (by rw [Array.length_toList]; exact Nat.le_of_not_lt hlt)]
  simp only [execOp, ho, h2.str_inv, h3.int_inv, Instr.index, asIntOf, Sem.run_bind, Sem.run_pure, Result.andThen_ok, run_underlying' h1, hu, if_pos h0, hb]
theorem pj_sslice (hT : TabOK P T) {t : TypeId} {ti : TI} (ht : T t = some ti) (hu : ti.u = .string) {x : Operand} {lo hi : Option Operand} {l h : Int} {b : ByteArray} (ho : o.op = .slice t x lo hi none) (hx1 : rh x = .d (.str b)) (hl : obd rh lo 0 = some l) (hh : obd rh hi b.size = some h)
    (h0 : 0 ≤ l) (hlh : l ≤ h) (hc : h ≤ (b.size : Int)) : PJ P G o rh L s (.d (.str (b.extract l.toNat h.toNat))) [] := by
  refine pj_value fun M F U w a hS hG hx => ⟨.string (b.extract l.toNat h.toNat), ?_, .d (.str _)⟩
  obtain ⟨u1, _⟩ := hT t ti ht
  rw [hu] at u1
  have h1 := hx x (by simp [ho, Op.operands])
  rw [hx1] at h1
  have hlo : ∀ y ∈ lo.toArray.toList, RV M F w (rh y) (a.eval y) := fun y hy => hx y (by simp [ho, Op.operands] at hy ⊢; exact .inr (.inl hy))
  have hhi : ∀ y ∈ hi.toArray.toList, RV M F w (rh y) (a.eval y) := fun y hy => hx y (by simp [ho, Op.operands] at hy ⊢; exact .inr (.inr hy))
  have e1 : (lo.map a.eval = none ∧ l = 0) ∨ ∃ k, lo.map a.eval = some (.int k l) := by
    rcases obd_val hl hlo with ⟨rfl, rfl⟩ | h
    · exact .inl ⟨rfl, rfl⟩
    · exact .inr h
  have e2 : (hi.map a.eval = none ∧ h = (b.size : Int)) ∨ ∃ k, hi.map a.eval = some (.int k h) := by
    rcases obd_val hh hhi with ⟨rfl, rfl⟩ | h
    · exact .inl ⟨rfl, rfl⟩
    · exact .inr h
  have hb := run_bounds (P := P) e1 e2 h0 hlh hc false w
  simp only [execOp, ho, h1.str_inv, Option.map_none, Instr.sliceAt]
  simp only [Sem.run_bind, Instr.slice, run_underlying' u1, Result.andThen_ok, Sem.run_pure]
  simp [hb, Result.andThen]
end
end Go.Pv
/- Equality of structs of integers, nested ones too. -/
namespace Go.Pv
open Go.RowKit

section
variable {P : Program} {T : Nat → Option TI} {G : Gl} {o : Oper} {rh : Operand → AV} {L : List AB} {s : List (Nat × AB)}
/-- Structs of integers, alike or not. -/
theorem pj_eqs (hT : TabOK P T) {op : BinOp} {t ty : TypeId} {ti : TI} (ht : T t = some ti) {x y : Operand} {v : Bool} {ks : List IntKind} {xs ys : List DV} (ho : o.op = .binOp op t x y ty) (hk : flatS T 8 t = some ks) (hag : ti.agg = true)
    (hh : heldS P T 8 t = true) (hq : P.eqGuardType P.depth t = false) (hx : dxOf (rh x) = some (.agg xs)) (hy : dxOf (rh y) = some (.agg ys)) (h1 : kmatch xs ks = true) (h2 : kmatch ys ks = true)
    (hop : (op = .eql ∧ v = eqL xs ys) ∨ (op = .neq ∧ v = !eqL xs ys)) : PJ P G o rh L s (.d (.bool v)) [] := by
  refine pj_value fun M F U w a hS hG hop2 => ?_
  have k1 := hop2 x (by simp [ho, Op.operands])
  have k2 := hop2 y (by simp [ho, Op.operands])
  rw [dxOf_av hx] at k1
  rw [dxOf_av hy] at k2
  have e1 := kgood_val (c := (true, ks)) (by simp [kgood, h1]) k1
  have e2 := kgood_val (c := (true, ks)) (by simp [kgood, h2]) k2
  obtain ⟨_, _, r, hr1, hr2⟩ := flatS_eq hT (w := w) 9992 8 t ti ks ht hk hh xs ys h1 h2
  have hr : r = eqL xs ys := by
    have := eqL_iff h1 h2
    cases r <;> cases h : eqL xs ys <;> simp_all
  rw [hag] at hr1
  refine ⟨.bool v, ?_, .d (.bool v)⟩
  simp only [execOp, ho, e1, e2, kval, Sem.run_bind, run_eqGuard_agg w op t x y _ _ hq, Result.andThen_ok]
  rcases hop with ⟨rfl, rfl⟩ | ⟨rfl, rfl⟩
  · rw [run_eql_struct, show (10000 : Nat) = 9992 + 8 from rfl]
    simp only [vS] at hr1
    rw [hr1, hr]
    rfl
  · rw [run_neq_struct, show (10000 : Nat) = 9992 + 8 from rfl]
    simp only [vS] at hr1
    rw [hr1, hr]
    rfl
end
end Go.Pv
/- Rows whose cells hold places; interfaces: made, asked for what they hold, held against each other. -/
namespace Go.Pv
open Go.RowKit

section
variable {P : Program} {G : Gl} {T : Nat → Option TI} {o : Oper} {rh : Operand → AV} {L : List AB} {s : List (Nat × AB)} {M : Mp} {F F1 U : Nat → Prop} {w w1 : World}

theorem pj_load_arow (hT : TabOK P T) {t : TypeId} {ti : TI} (ht : T t = some ti) {x : Operand} {r : Rf} {sz i j0 : Nat} {rows : List (List AV)} {row : List AV} {v : AV} (ho : o.op = .load t x) (hx1 : rh x = .el r sz i j0)
    (hr : Here L s r (.arow sz rows)) (hrow : rows[i]? = some row) (hlen : (takeN row j0 ti.size).length = ti.size) (hv : ofCells ti.agg (takeN row j0 ti.size) = some v) : PJ P G o rh L s v [] := by
  refine pj_value fun M F U w a hS hG hx => ?_
  have h1 := hx x (by simp [ho, Op.operands])
  rw [hx1] at h1
  generalize he : a.eval x = u at h1
  cases h1 with
  | el _ _ _ _ b hm =>
    obtain ⟨arr, tt, hb, hsz, hrl, hone, hc⟩ := hS.rb r _ b hr hm
    have hrs : row.length = sz := hrl i row hrow
    have hin : ∀ j, j < row.length → i * sz + j < arr.size := by
      intro j hj
      have hi := (List.getElem?_eq_some_iff.1 hrow).1
      have : (i + 1) * sz ≤ rows.length * sz := Nat.mul_le_mul_right _ hi
      rw [Nat.succ_mul] at this
      omega
    have hget : ∀ j, j < ti.size → ∃ y, row[j0 + j]? = some y := by
      intro j hj
      have hj' : j < (takeN row j0 ti.size).length := by omega
      exact ⟨_, get_takeN (List.getElem?_eq_getElem hj')⟩
    have harr : ∀ j, j < ti.size → ∃ u, arr[i * sz + (j0 + j)]? = some u := by
      intro j hj
      obtain ⟨y, h2⟩ := hget j hj
      exact ⟨_, Array.getElem?_eq_getElem (hin _ (List.getElem?_eq_some_iff.1 h2).1)⟩
    have hus : ∀ j, ((List.range ti.size).map fun j => (arr[i * sz + (j0 + j)]?).getD Go.undef)[j]? = if j < ti.size then arr[i * sz + (j0 + j)]? else none := by
      intro j
      by_cases hj : j < ti.size
      · obtain ⟨u, hu⟩ := harr j hj
        simp [hj, hu]
      · simp [hj]
    obtain ⟨val, hrun, hv1, hv2⟩ := run_loadVar_cells (P := P) (w := w) (hT := hT) ht ⟨b, i * sz + j0, none⟩ ((List.range ti.size).map fun j => (arr[i * sz + (j0 + j)]?).getD Go.undef) (by simp) (fun j u hu => by
      rw [hus] at hu
      split at hu
      · rw [add_plain]; simp [World.cell?, hb, Nat.add_assoc, hu]
      · cases hu)
    refine ⟨val, ?_, RV.ofCells hv hv1 hv2 (by simp [hlen]) (fun j u hu => ?_) (fun j y u hy hu => ?_)⟩
    · simp only [execOp, ho, he, Instr.loadAt, Instr.sureAddr, Sem.run_bind, Sem.run_pure, Result.andThen_ok, hrun]
    · rw [hus] at hu
      split at hu
      · exact hone _ u hu
      · cases hu
    · rw [hus] at hu
      split at hu
      · exact (hc i row (j0 + j) y u hrow (get_takeN hy) hu).mono (M.sub_le r) (fun _ h => h) hS.FU (.refl _ _)
      · cases hu

/-- Is a type no interface? -/
def plainT (T : Nat → Option TI) (t : Nat) : Bool := match T t with
  | some ti => match ti.u with
    | .interface _ => false
    | _ => true
  | none => false
theorem plainT_get (hT : TabOK P T) {t : Nat} (h : plainT T t = true) : ∃ u, P.underlying t = some u ∧ ∀ ms, u ≠ .interface ms := by
  unfold plainT at h
  split at h <;> try cases h
  rename_i ti ht
  refine ⟨ti.u, (hT t ti ht).1, fun ms e => ?_⟩
  rw [e] at h
  cases h
/-- A value packed. -/
def vpack (t : Nat) : AV → AV
  | .d x => .d (.iface t x)
  | x => .ifc t x
theorem vpack_rv {t : Nat} {x : AV} {v : Value} (h : RV M F w x v) : RV M F w (vpack t x) (.iface t v) := by
  cases x with
  | d y =>
    cases h with
    | d h => exact .d (.iface t y v h)
  | _ => exact .ifc t _ v h
theorem pj_makeInterface (hT : TabOK P T) {t : TypeId} {x : Operand} (ho : o.op = .makeInterface t x) (hp : plainT T t = true) : PJ P G o rh L s (vpack t (rh x)) [] := by
  refine pj_value fun M F U w a hS hG hx => ?_
  have h1 := hx x (by simp [ho, Op.operands])
  obtain ⟨u, hu, hno⟩ := plainT_get hT hp
  refine ⟨.iface t (a.eval x), ?_, vpack_rv h1⟩
  simp only [execOp, ho, Instr.makeInterface, Sem.run_bind, run_underlying' hu, Result.andThen_ok]
  cases u <;> first | rfl | exact absurd rfl (hno _)

/-- What an interface holds: of which type, what. -/
def vunpack : AV → Option (Option (Nat × AV))
  | .d (.raw .nilIface) => some none
  | .d (.iface t x) => some (some (t, .d x))
  | .ifc t x => some (some (t, x))
  | _ => none
theorem vunpack_get {x : AV} {v : Value} {r : Option (Nat × AV)} (h : vunpack x = some r) (hv : RV M F w x v) : match r with
    | none => v = .nilIface
    | some (t, y) => ∃ u, v = .iface t u ∧ RV M F w y u := by
  unfold vunpack at h
  split at h <;> cases h
  · exact hv.raw_inv
  · cases hv with
    | d h => cases h with | iface _ _ u h => exact ⟨u, rfl, .d h⟩
  · cases hv with | ifc _ _ u h => exact ⟨u, rfl, h⟩
def vasr (ti : TI) (t : Nat) (r : Option (Nat × AV)) : AV := match r with
  | none => .tup [zv ti, .d (.bool false)]
  | some (t', y) => match Nat.beq t' t with
    | true => .tup [y, .d (.bool true)]
    | false => .tup [zv ti, .d (.bool false)]
/-- Asked whether it holds a type; K: what it holds, whether it does. -/
def vassert (T : Nat → Option TI) (t : Nat) (ok : Bool) (x : AV) (K : AV → Prop) : Prop := match plainT T t && ok with
  | true => match T t with
    | some ti => match vunpack x with
      | some none => K (.tup [zv ti, .d (.bool false)])
      | some (some (t', y)) => match Nat.beq t' t with
        | true => K (.tup [y, .d (.bool true)])
        | false => K (.tup [zv ti, .d (.bool false)])
      | none => False
    | none => False
  | false => False
theorem vassert_get {t : Nat} {ok : Bool} {x : AV} {K : AV → Prop} (h : vassert T t ok x K) : ∃ ti r, plainT T t = true ∧ ok = true ∧ T t = some ti ∧ vunpack x = some r ∧ K (vasr ti t r) := by
  unfold vassert at h
  split at h <;> try exact h.elim
  rename_i hb
  rw [Bool.and_eq_true] at hb
  split at h <;> try exact h.elim
  rename_i ti ht
  split at h <;> try exact h.elim
  · rename_i e; exact ⟨ti, none, hb.1, hb.2, ht, e, h⟩
  · rename_i t' y e
    refine ⟨ti, some (t', y), hb.1, hb.2, ht, e, ?_⟩
    unfold vasr
    split at h <;> rename_i e2
    · simp only [e2]; exact h
    · simp only [e2]; exact h
theorem tup2 {x y : AV} {u v : Value} (h1 : RV M F w x u) (h2 : RV M F w y v) : RV M F w (.tup [x, y]) (.tuple #[u, v]) :=
  .tup [x, y] [u, v] rfl fun j z q hz hq => match j, hz, hq with
    | 0, hz, hq => by cases hz; cases hq; exact h1
    | 1, hz, hq => by cases hz; cases hq; exact h2
theorem pj_typeAssert (hT : TabOK P T) {t xT : TypeId} {ti : TI} {x : Operand} (ho : o.op = .typeAssert x xT t true) (hp : plainT T t = true) (ht : T t = some ti) {r : Option (Nat × AV)} (hr : vunpack (rh x) = some r) :
    PJ P G o rh L s (vasr ti t r) [] := by
  refine pj_value fun M F U w a hS hG hx => ?_
  have h1 := vunpack_get hr (hx x (by simp [ho, Op.operands]))
  obtain ⟨u, hu, hno⟩ := plainT_get hT hp
  obtain ⟨z, hz1, hz2⟩ := hT.zv ht
  cases r with
  | none =>
    simp only at h1
    refine ⟨.tuple #[z, .bool false], ?_, tup2 (hz2 M F w) (.d (.bool false))⟩
    simp only [execOp, ho, h1, Instr.typeAssert, Sem.run_bind, run_underlying' hu, Result.andThen_ok]
    cases u <;> first | (simp [hz1, Result.andThen]; done) | exact absurd rfl (hno _)
  | some p =>
    obtain ⟨t', y⟩ := p
    obtain ⟨v, h1, h2⟩ := h1
    by_cases he : t' = t
    · subst he
      unfold vasr
      simp only [Nat.beq_refl]
      refine ⟨.tuple #[v, .bool true], ?_, tup2 h2 (.d (.bool true))⟩
      simp only [execOp, ho, h1, Instr.typeAssert, Sem.run_bind, run_underlying' hu, Result.andThen_ok]
      cases u <;> first | (simp [Result.andThen]; done) | exact absurd rfl (hno _)
    · have hb : Nat.beq t' t = false := by
        cases hb : Nat.beq t' t with
        | false => rfl
        | true => exact absurd (Nat.eq_of_beq_eq_true hb) he
      unfold vasr
      simp only [hb]
      refine ⟨.tuple #[z, .bool false], ?_, tup2 (hz2 M F w) (.d (.bool false))⟩
      simp only [execOp, ho, h1, Instr.typeAssert, Sem.run_bind, run_underlying' hu, Result.andThen_ok]
      cases u <;> first | (simp [hz1, he, Result.andThen]; done) | exact absurd rfl (hno _)

/-- A pointer to pinned memory, packed. -/
def pinA : AV → Option (Nat × Addr)
  | .d (.iface t (.raw (.pointer (some b)))) => some (t, b)
  | _ => none
theorem pinA_get {x : AV} {t : Nat} {b : Addr} {v : Value} (h : pinA x = some (t, b)) (hv : RV M F w x v) : v = .iface t (.pointer (some b)) := by
  unfold pinA at h
  split at h <;> cases h
  cases hv with
  | d h => cases h with | iface _ _ u h => cases h; rfl
/-- Two such held against each other. -/
def vifeq (P : Program) (G : Gl) (T : Nat → Option TI) (im : Prop → Prop) (t : Nat) (X Y : AV) (K : Bool → Prop) : Prop := match T t with
  | some ti => match ti.u with
    | .interface _ => match pinA X with
      | some (t1, b1) => match pinA Y with
        | some (t2, b2) => match Nat.beq t1 t2 with
          | true => match T t1 with
            | some tp => match tp.u with
              | .pointer e => match T e with
                | some te => match te.size with
                  | 0 => False
                  | _ + 1 => ∃ r : Bool, im (((r = true ∧ b1 = b2) ∨ (r = false ∧ b1 ≠ b2 ∧ (G b1.block).isSome = true ∧ (G b2.block).isSome = true)) ∧ (match P.info? t1 with
                    | some i => i.comparable
                    | none => false) = true) ∧ K r
                | none => False
              | _ => False
            | none => False
          | false => False
        | none => False
      | none => False
    | _ => False
  | none => False
theorem vifeq_get {t : Nat} {im : Prop → Prop} {X Y : AV} {K : Bool → Prop} (h : vifeq P G T im t X Y K) : ∃ ti ms t1 b1 b2 tp e te r, T t = some ti ∧ ti.u = .interface ms ∧ pinA X = some (t1, b1) ∧ pinA Y = some (t1, b2) ∧ T t1 = some tp ∧ tp.u = .pointer e ∧ T e = some te ∧ te.size ≠ 0 ∧
    im (((r = true ∧ b1 = b2) ∨ (r = false ∧ b1 ≠ b2 ∧ (G b1.block).isSome = true ∧ (G b2.block).isSome = true)) ∧ (match P.info? t1 with
                    | some i => i.comparable
                    | none => false) = true) ∧ K r := by
  unfold vifeq at h
  split at h <;> try exact h.elim
  rename_i ti ht
  split at h <;> try exact h.elim
  rename_i ms hms
  split at h <;> try exact h.elim
  rename_i t1 b1 h1
  split at h <;> try exact h.elim
  rename_i t2 b2 h2
  split at h <;> try exact h.elim
  rename_i hb
  have := Nat.eq_of_beq_eq_true hb
  subst this
  split at h <;> try exact h.elim
  rename_i tp htp
  split at h <;> try exact h.elim
  rename_i e he
  split at h <;> try exact h.elim
  rename_i te hte
  split at h <;> try exact h.elim
  rename_i n hn
  obtain ⟨r, hr, hk⟩ := h
  exact ⟨ti, ms, t1, b1, b2, tp, e, te, r, ht, hms, h1, h2, htp, he, hte, by rw [hn]; exact Nat.succ_ne_zero _, hr, hk⟩
theorem pj_ifeq (hT : TabOK P T) {t ty : TypeId} {ti tp te : TI} {ms : Array (String × TypeId)} {t1 e : Nat} {b1 b2 : Addr} {r : Bool} {x y : Operand} (ho : o.op = .binOp .eql t x y ty) (ht : T t = some ti) (hms : ti.u = .interface ms)
    (h1 : pinA (rh x) = some (t1, b1)) (h2 : pinA (rh y) = some (t1, b2)) (htp : T t1 = some tp) (he : tp.u = .pointer e) (hte : T e = some te) (hsz : te.size ≠ 0)
    (hr : ((r = true ∧ b1 = b2) ∨ (r = false ∧ b1 ≠ b2 ∧ (G b1.block).isSome = true ∧ (G b2.block).isSome = true)) ∧ (match P.info? t1 with
      | some i => i.comparable
      | none => false) = true) : PJ P G o rh L s (.d (.bool r)) [] := by
  refine pj_value fun M F U w a hS hG hx => ?_
  have e1 := pinA_get h1 (hx x (by simp [ho, Op.operands]))
  have e2 := pinA_get h2 (hx y (by simp [ho, Op.operands]))
  refine ⟨.bool r, ?_, .d (.bool r)⟩
  have hi := (hT t ti ht).1
  rw [hms] at hi
  have hp := (hT t1 tp htp).1
  rw [he] at hp
  obtain ⟨_, _, j, _, _, hj, hjs, _⟩ := hT e te hte
  obtain ⟨_, _, i, _, _, hii, _⟩ := hT t1 tp htp
  obtain ⟨hr, hcomp⟩ := hr
  rw [hii] at hcomp
  have hguard : (eqGuard .eql t x y (a.eval x) (a.eval y)).run P w = .ok () w := by
    rw [e1, e2]
    rfl
  have hbin : (binOp .eql t (a.eval x) (a.eval y)).run P w = .ok (.bool r) w := by
    rw [e1, e2]
    rcases hr with ⟨rfl, rfl⟩ | ⟨rfl, hne, g1, g2⟩
    · exact run_eql_iface_ptr_same w _ hi hp hii hcomp hj
    · obtain ⟨c1, hc1⟩ := Option.isSome_iff_exists.1 g1
      obtain ⟨c2, hc2⟩ := Option.isSome_iff_exists.1 g2
      obtain ⟨_, _, ar1, tt1, k1⟩ := hG b1.block c1 hc1
      obtain ⟨_, _, ar2, tt2, k2⟩ := hG b2.block c2 hc2
      exact run_eql_iface_ptr_other w hi hp hii hcomp hj (by rw [hjs]; exact hsz) hne k1 k2
  simp only [execOp, ho, Sem.run_bind, hguard, Result.andThen_ok, hbin, Sem.run_pure]
end
end Go.Pv
/- Rows and maps made in a head: they are locals. -/
namespace Go.Pv
open Go.RowKit

section
variable {P : Program} {G : Gl} {T : Nat → Option TI} {o : Oper} {rh : Operand → AV} {L : List AB} {s : List (Nat × AB)} {M : Mp} {F F1 U : Nat → Prop} {w w1 : World}
theorem zeroCells_size (z : Array Value) (n : Nat) : (Builtin.zeroCells z n).size = n * z.size := by simp [Builtin.zeroCells]
theorem zeroCells_mem {z : Array Value} {n : Nat} (hz : ∀ v ∈ z.toList, v.oneCell' = true) : ∀ v ∈ (Builtin.zeroCells z n).toList, v.oneCell' = true := by
  intro v hv
  simp only [Builtin.zeroCells, Array.toList_map, Array.toList_range, List.mem_map, List.mem_range] at hv
  obtain ⟨i, hi, rfl⟩ := hv
  have hpos : 0 < z.size := by
    rcases Nat.eq_zero_or_pos z.size with e | e
    · rw [e] at hi; simp at hi
    · exact e
  have hlt := Nat.mod_lt i hpos
  rw [getElem!_pos z _ hlt]
  exact hz _ (by simp)
theorem TabOK.zeroRows (hT : TabOK P T) {e : TypeId} {te : TI} (hte : T e = some te) : ∃ i z, P.info? e = some i ∧ i.size = te.size ∧ i.bytes = te.bytes ∧ i.zero = some z ∧ z.cells.size = te.size ∧ (∀ v ∈ z.cells.toList, v.oneCell' = true) ∧
    ∀ (F : Nat → Prop) (w : World) (c len : Nat), len ≤ c → RowV F w te.size (List.replicate len te.zero) (Builtin.zeroCells z.cells c).toList := by
  obtain ⟨_, _, i, z, zs, q3, q4, q5, q6, q7, q8, q9, _⟩ := hT e te hte
  have hl : te.zero.length = te.size := by
    have := congrArg List.length q8
    simp at this
    omega
  have hone : ∀ v ∈ z.cells.toList, v.oneCell' = true := fun v hv => by
    rw [q7] at hv
    simp only [] at hv
    obtain ⟨j, hj⟩ := List.mem_iff_getElem?.1 hv
    have h1 : (zs.map some)[j]? = some (some v) := by rw [List.getElem?_map, hj]; rfl
    rw [← q8, List.getElem?_map] at h1
    obtain ⟨d, _, hd⟩ := Option.map_eq_some_iff.1 h1
    exact (dconst_RD (N := fun _ => True) (w := ⟨#[], fun _ _ => 0, 0, default, #[]⟩) hd).oneCell
  have hzs : z.cells.size = te.size := by rw [q7]; simpa using q9
  refine ⟨i, z, q3, q4, q5, q6, hzs, hone, fun F w c len hc => ⟨?_, fun i r hi => ?_, zeroCells_mem hone, fun i r j x v hi hj hv => ?_⟩⟩
  · simp [zeroCells_size, hzs]; exact Nat.mul_le_mul_right _ hc
  · rw [List.getElem?_replicate] at hi
    split at hi <;> cases hi
    exact hl
  · rw [List.getElem?_replicate] at hi
    split at hi <;> cases hi
    have hj' : j < te.size := by have := (List.getElem?_eq_some_iff.1 hj).1; omega
    have hk := (List.getElem?_eq_some_iff.1 hv).1
    simp only [Array.length_toList, zeroCells_size, hzs] at hk
    have hv2 : v = z.cells[(i * te.size + j) % z.cells.size]! := by
      simp only [Builtin.zeroCells, Array.toList_map, Array.toList_range, List.getElem?_map] at hv
      rw [List.getElem?_range (by rw [hzs]; exact hk)] at hv
      simpa using hv.symm
    rw [hzs, Nat.mul_comm i, Nat.mul_add_mod, Nat.mod_eq_of_lt hj'] at hv2
    have h2 : zs[j]? = some v := by
      rw [hv2, q7]
      have hlt : j < zs.length := by omega
      rw [getElem!_pos _ _ (by simpa using hlt)]
      simp [List.getElem?_eq_getElem hlt]
    have h1 : (te.zero.map dconst)[j]? = some (some v) := by rw [q8, List.getElem?_map, h2]; rfl
    rw [List.getElem?_map, hj] at h1
    simp only [Option.map_some, Option.some.injEq] at h1
    exact dconst_RD h1
theorem pj_makeMap {t : TypeId} (ho : o.op = .makeMap t none) : PJ P G o rh L s (.mp (.l L.length)) [.dmap []] := by
  intro M F U w a hS hG hx
  refine wp_value (val := .map (some w.heap.size)) (w' := w.alloc (.map #[] 0)) ?_ ⟨_, _, F, U, rfl, grew_alloc hS (.map #[] 0) (fun w' M' hle hx hnew => ⟨#[], 0, hnew, rfl, fun i e x he hx => by simp at he, fun i e he => by simp at he, fun i j e e' he => by simp at he⟩) (fun w' M' _ hm _ _ => .mp _ _ hm)⟩
  simp only [execOp, ho]
  rfl
theorem pj_makeSlice {t e : TypeId} {ti te : TI} (hT : TabOK P T) (ht : T t = some ti) (hu : ti.u = .slice e) (hte : T e = some te) {x y : Operand} {len cap : Nat} {k1 k2 : IntKind} (ho : o.op = .makeSlice t x y)
    (hx1 : rh x = .d (.int k1 len)) (hy1 : rh y = .d (.int k2 cap)) (hlc : len ≤ cap) (hbig : cap * te.bytes ≤ 281474976710656) (hcap : cap ≤ 4611686018427387904) : PJ P G o rh L s (.slc (.l L.length) te.size 0 len cap) [.row te.size (List.replicate len te.zero)] := by
  intro M F U w a hS hG hx
  have h1 := hx x (by simp [ho, Op.operands])
  have h2 := hx y (by simp [ho, Op.operands])
  rw [hx1] at h1
  rw [hy1] at h2
  obtain ⟨u1, _⟩ := hT t ti ht
  rw [hu] at u1
  obtain ⟨i, z, q3, q4, q5, q6, q7, q8, q9⟩ := hT.zeroRows hte
  have hrow := q9 F w cap len hlc
  have hrun : (execOp a.eval o).run P w = .ok (.value (.slice (some ⟨w.heap.size, 0 * te.size, none⟩) len cap)) (w.alloc (.cells (Builtin.zeroCells z.cells cap) e)) := by
    have e1 := h1.int_inv
    have e2 := h2.int_inv
    have hb' : (i.bytes : Int) * (cap : Int) ≤ 281474976710656 := by
      rw [q5]
      have h : ((te.bytes * cap : Nat) : Int) ≤ 281474976710656 := by rw [Nat.mul_comm]; omega
      rwa [Int.natCast_mul] at h
    have hr := run_make (P := P) w t e i z u1 q3 q6 k1 k2 len cap (by omega) (by omega) hb' (by omega)
    have hmc : madeCells z.cells (cap * i.size) = Builtin.zeroCells z.cells cap := by
      unfold madeCells Builtin.zeroCells
      rw [q4, q7]
    simp only [Int.toNat_natCast] at hr
    rw [hmc] at hr
    simp only [execOp, ho, e1, e2, Sem.run_bind, hr, Result.andThen_ok, Sem.run_pure, Nat.zero_mul]
  exact wp_value hrun ⟨_, _, F, U, rfl, grew_alloc hS (.cells (Builtin.zeroCells z.cells cap) e) (fun w' M' hle hX hnew => RB.of_row hnew (hrow.mono (fun _ h => h) (fun b hb => hX.block b (hS.Ult b (hS.FU b hb)))))
    (fun w' M' _ hm hX hnew => .slc _ te.size 0 len cap w.heap.size hm hlc ⟨e, (Builtin.zeroCells z.cells cap).size, by simp only [World.shape?, hnew], by simp [zeroCells_size, q7]⟩)⟩
end
end Go.Pv
/- The telling of operations that write nothing that was there. -/
namespace Go.Pv
open Go.RowKit

/-- What is asked beside: the program's table, the globals, the number of temporaries, the slots that live beyond their region. -/
structure Ctx where
  T : Nat → Option TI
  G : Gl
  nt : Nat
  keep : List Nat

def ld (ti : TI) (xs : List AV) (K : AV → List AB → Prop) : Prop := match Nat.beq xs.length ti.size with
  | true => match ofCells ti.agg xs with
    | some v => K v []
    | none => False
  | false => False
def isNotNil : AV → Bool
  | .ref _ _ => true
  | .el _ _ _ _ => true
  | .d (.ptr _ _) => true
  | .fn _ _ => true
  | _ => false
def vfld (T : Nat → Option TI) (t f : Nat) : Option Nat := match T t with
  | some ti => match ti.u with
    | .struct fs => match fs[f]? with
      | some fd => match T fd.type with
        | some tf => match tf.size with
          | 0 => none
          | _ + 1 => some fd.offset
        | none => none
      | none => none
    | _ => none
  | none => none
/-- A slice type's element. -/
def velem (T : Nat → Option TI) (t : Nat) : Option TI := match T t with
  | some ti => match ti.u with
    | .slice e => T e
    | _ => none
  | none => none

/-- An array type's length and element. -/
def varr (T : Nat → Option TI) (t : Nat) : Option (Nat × TI) := match T t with
  | some ti => match ti.u with
    | .array len e => match T e with
      | some te => some (len, te)
      | none => none
    | _ => none
  | none => none

def veq1 (T : Nat → Option TI) (t : Nat) (x y : Operand) (X Y : AV) : Option Bool := match T t with
  | some ti => match isC x || isC y || (match ti.u with
      | .interface _ => false
      | _ => true) with
    | true => veqv ti.u X Y
    | false => none
  | none => none
def fPl : List (Nat × Nat) → (List (Nat × Nat) → Prop) → Prop
  | [], K => K []
  | (a, b) :: r, K => fNum a fun a => fNum b fun b => fPl r fun r => K ((a, b) :: r)
theorem fPl_eq : ∀ (xs : List (Nat × Nat)) (K : List (Nat × Nat) → Prop), fPl xs K = K xs
  | [], _ => rfl
  | (a, b) :: r, K => by simp only [fPl, fNum_eq, fPl_eq r]
/-- A composite value, part by part. -/
def vfillK (place : List (Nat × Nat)) : List (Nat × AV) → List AV → (List AV → Prop) → Prop
  | [], cs, K => K cs
  | (i, x) :: r, cs, K => match place[i]? with
    | some (off, size) => match boxable x && Nat.beq x.cells.length size && Nat.ble (off + size) cs.length with
      | true => fAVs 100 (setN cs off x.cells) fun cs => vfillK place r cs K
      | false => False
    | none => False
theorem vfillK_get {place : List (Nat × Nat)} : ∀ {parts : List (Nat × AV)} {cs : List AV} {K : List AV → Prop}, vfillK place parts cs K → ∃ cs', vfill place cs parts = some cs' ∧ K cs'
  | [], cs, K, h => ⟨cs, rfl, h⟩
  | (i, x) :: r, cs, K, h => by
    simp only [vfillK] at h
    split at h <;> try exact h.elim
    rename_i off size hp
    split at h <;> try exact h.elim
    rename_i hb
    rw [fAVs_eq] at h
    obtain ⟨cs', h1, h2⟩ := vfillK_get h
    exact ⟨cs', by simp only [vfill, hp, hb]; exact h1, h2⟩
def vbuildK (T : Nat → Option TI) (t : Nat) (parts : List (Nat × AV)) (K : List AV → Prop) : Prop := match T t with
  | some ti => match placesOf T ti with
    | some ps => fPl ps fun ps => fAVs 100 (ti.zero.map .d) fun z => vfillK ps parts z K
    | none => False
  | none => False
theorem vbuildK_get {T : Nat → Option TI} {t : Nat} {parts : List (Nat × AV)} {K : List AV → Prop} (h : vbuildK T t parts K) : ∃ cs, vbuild T t parts = some cs ∧ K cs := by
  unfold vbuildK at h
  split at h <;> try exact h.elim
  rename_i ti ht
  split at h <;> try exact h.elim
  rename_i ps hps
  rw [fPl_eq, fAVs_eq] at h
  obtain ⟨cs, h1, h2⟩ := vfillK_get h
  exact ⟨cs, by simp only [vbuild, ht, hps]; exact h1, h2⟩
/-- Structs of integers, alike or not. -/
def eqsK (P : Program) (T : Nat → Option TI) (t : Nat) (X Y : AV) (K : Bool → Prop) : Prop := match T t with
  | some ti => match ti.agg with
    | true => match flatS T 8 t with
      | some ks => match dxOf X with
        | some (.agg xs) => match dxOf Y with
          | some (.agg ys) => match kmatch xs ks && kmatch ys ks with
            | true => (heldS P T 8 t = true ∧ P.eqGuardType P.depth t = false) ∧ K (eqL xs ys)
            | false => False
          | _ => False
        | _ => False
      | none => False
    | false => False
  | none => False
theorem eqsK_get {P : Program} {T : Nat → Option TI} {t : Nat} {X Y : AV} {K : Bool → Prop} (h : eqsK P T t X Y K) : ∃ ti ks xs ys, T t = some ti ∧ ti.agg = true ∧ flatS T 8 t = some ks ∧ dxOf X = some (.agg xs) ∧ dxOf Y = some (.agg ys) ∧ kmatch xs ks = true ∧ kmatch ys ks = true ∧ heldS P T 8 t = true ∧ P.eqGuardType P.depth t = false ∧ K (eqL xs ys) := by
  unfold eqsK at h
  split at h <;> try exact h.elim
  rename_i ti ht
  split at h <;> try exact h.elim
  rename_i ha
  split at h <;> try exact h.elim
  rename_i ks hk
  split at h <;> try exact h.elim
  rename_i xs hx
  split at h <;> try exact h.elim
  rename_i ys hy
  split at h <;> try exact h.elim
  rename_i hb
  rw [Bool.and_eq_true] at hb
  exact ⟨ti, ks, xs, ys, ht, ha, hk, hx, hy, hb.1, hb.2, h.1.1, h.1.2, h.2⟩
/-- Called of one operation; K: what comes of it, the value and the new blocks. -/
def vop (P : Program) (cx : Ctx) (im : Prop → Prop) (rh : Operand → AV) (L : List AB) (s : List (Nat × AB)) (op : Op) (K : AV → List AB → Prop) : Prop := match op with
  | .move x => K (rh x) []
  | .assign x => K (rh x) []
  | .pick c x y => match rh c with
    | .d (.bool p) => match rh x with
      | .d (.bool b1) => match rh y with
        | .d (.bool b2) => K (.d (.bool (cond p b1 b2))) []
        | .undef => im (p = true) ∧ K (.d (.bool b1)) []
        | _ => False
      | .undef => match rh y with
        | .d (.bool b2) => im (p = false) ∧ K (.d (.bool b2)) []
        | _ => False
      | _ => False
    | _ => False
  | .build t parts => vbuildK cx.T t (parts.toList.map fun p => (p.1, rh p.2)) fun cs => K (.agg cs) []
  | .binOp op t x y _ => match vbin op (rh x) (rh y) with
    | some v => K v []
    | none => match op with
      | .eql => match veq1 cx.T t x y (rh x) (rh y) with
        | some r => K (.d (.bool r)) []
        | none => match pinA (rh x) with
          | some _ => vifeq P cx.G cx.T im t (rh x) (rh y) fun b => K (.d (.bool b)) []
          | none => eqsK P cx.T t (rh x) (rh y) fun b => K (.d (.bool b)) []
      | .neq => match veq1 cx.T t x y (rh x) (rh y) with
        | some r => K (.d (.bool (!r))) []
        | none => eqsK P cx.T t (rh x) (rh y) fun b => K (.d (.bool (!b))) []
      | .add => match rh x, rh y with
        | .d (.str p), .d (.str q) => p.size + q.size ≤ 9223372036854775807 ∧ K (.d (.str (p ++ q))) []
        | _, _ => False
      | .quo => match rh x, rh y with
        | .d (.int k a), .d (.int k' b) => im (k = k' ∧ b ≠ 0) ∧ K (.d (.int k (k.wrap (a.tdiv b)))) []
        | _, _ => False
      | .rem => match rh x, rh y with
        | .d (.int k a), .d (.int k' b) => im (k = k' ∧ b ≠ 0) ∧ K (.d (.int k (a.tmod b))) []
        | _, _ => False
      | _ => False
  | .lookup t x k ok => match cx.T t with
    | some ti => match ti.u with
      | .map kt et => match keyK cx.T kt with
        | some (nb, c) => match cx.T et with
          | some te => match dxOf (rh k) with
            | some kx => match rh x with
              | .mp (.g id) => match sfind s id with
                | some (.dmap es) => keyH P cx.T kt nb ∧ ∃ r, im (kgood c kx = true ∧ (∀ e ∈ es, kgood c e.1 = true) ∧ dget es kx r) ∧ K (lres ok te r) []
                | _ => False
              | .d (.raw (.map none)) => im (kgood c kx = true) ∧ K (lres ok te none) []
              | _ => False
            | none => False
          | none => False
        | none => False
      | _ => False
    | none => False
  | .unOp op _ x => match vun op (rh x) with
    | some v => K v []
    | none => False
  | .field t x f => match cx.T t with
    | some ti => match ti.u with
      | .struct fs => match fs[f]? with
        | some fd => match cx.T fd.type with
          | some tf => match tf.agg with
            | false => match rh x with
              | .agg cs => match cs[fd.offset]? with
                | some v => K v []
                | none => False
              | _ => False
            | true => False
          | none => False
        | none => False
      | _ => False
    | none => False
  | .convert src dst x => match cx.T src with
    | some ts => match ts.u with
      | .int _ => match cx.T dst with
        | some td => match td.u with
          | .int k2 => match rh x with
            | .d (.int _ n) => K (.d (.int k2 (k2.wrap n))) []
            | _ => False
          | _ => False
        | none => False
      | _ => False
    | none => False
  | .extract x i => match rh x with
    | .tup vs => match vs[i]? with
      | some v => K v []
      | none => False
    | _ => False
  | .makeInterface t x => match plainT cx.T t with
    | true => K (vpack t (rh x)) []
    | false => False
  | .typeAssert x _ t ok => vassert cx.T t ok (rh x) fun v => K v []
  | .makeFunc (.func f) first caps => match first.toList with
    | [] => K (.fn f (caps.toList.map rh)) []
    | _ :: _ => False
  | .load t x => match cx.T t with
    | some ti => match rh x with
      | .ref (.l k) off => match L[k]? with
        | some (.cells cs) => ld ti (takeN cs off ti.size) K
        | _ => False
      | .ref (.g id) off => match sfind s id with
        | some (.cells cs) => ld ti (takeN cs off ti.size) K
        | _ => False
      | .d (.ptr cs off) => ld ti ((takeN cs off ti.size).map .d) K
      | .el (.l k) sz i j => match L[k]? with
        | some (.row sz' rows) => ∃ row, im (rows[i]? = some row) ∧ (sz' = sz ∧ ld ti ((takeN row j ti.size).map .d) K)
        | some (.arow sz' rows) => ∃ row, im (rows[i]? = some row) ∧ (sz' = sz ∧ ld ti (takeN row j ti.size) K)
        | _ => False
      | .el (.g id) sz i j => match sfind s id with
        | some (.row sz' rows) => ∃ row, im (rows[i]? = some row) ∧ (sz' = sz ∧ ld ti ((takeN row j ti.size).map .d) K)
        | some (.arow sz' rows) => ∃ row, im (rows[i]? = some row) ∧ (sz' = sz ∧ ld ti (takeN row j ti.size) K)
        | _ => False
      | _ => False
    | none => False
  | .fieldAddr t x f => match vfld cx.T t f with
    | some off => match vfield off (rh x) with
      | some v => K v []
      | none => False
    | none => False
  | .indexAddr t x y => match velem cx.T t with
    | some te => match rh y with
      | .d (.int _ n) => match rh x with
        | .d (.list sz rows) => match Nat.beq te.size sz with
          | true => ∃ row, im (0 ≤ n ∧ rows[n.toNat]? = some row) ∧ K (.d (.ptr row 0)) []
          | false => False
        | .slc r sz off len _ => match Nat.beq te.size sz with
          | true => im (0 ≤ n ∧ n < (len : Int)) ∧ K (.el r sz (off + n.toNat) 0) []
          | false => False
        | _ => False
      | _ => False
    | none => match varr cx.T t with
      | some (len, te) => match rh y with
        | .d (.int _ n) => im (0 ≤ n ∧ n < (len : Int)) ∧ fN (n.toNat * te.size) fun off => match vfield off (rh x) with
          | some v => K v []
          | none => False
        | _ => False
      | none => False
  | .index t x y => match cx.T t with
    | some ti => match ti.u with
      | .string => match rh y with
        | .d (.int _ n) => match rh x with
          | .d (.str b) => ∃ c : UInt8, im (0 ≤ n ∧ b.data.toList[n.toNat]? = some c) ∧ K (.d (.int .u8 (c.toNat : Int))) []
          | _ => False
        | _ => False
      | _ => False
    | none => False
  | .slice t x lo hi mx => match velem cx.T t with
    | some te => match mx with
      | none => match obd rh lo 0 with
        | some l => match rh x with
          | .d (.list sz rows) => match obd rh hi rows.length, Nat.beq te.size sz with
            | some h, true => im (0 ≤ l ∧ l ≤ h ∧ h ≤ rows.length) ∧ K (.d (.list sz ((rows.take h.toNat).drop l.toNat))) []
            | _, _ => False
          | .d .nil => match obd rh hi 0 with
            | some h => im (l = 0 ∧ h = 0) ∧ K (.d .nil) []
            | none => False
          | .d .emp => match obd rh hi 0 with
            | some h => im (l = 0 ∧ h = 0) ∧ K (.d .emp) []
            | none => False
          | .slc r sz off len cap => match obd rh hi len, Nat.beq te.size sz with
            | some h, true => im (0 ≤ l ∧ l ≤ h ∧ h ≤ cap) ∧ K (.slc r sz (off + l.toNat) (h.toNat - l.toNat) (cap - l.toNat)) []
            | _, _ => False
          | _ => False
        | none => False
      | some (.const (.int _ 0)) => match hi with
        | some (.const (.int _ 0)) => match (match lo with
            | none => true
            | some (.const (.int _ 0)) => true
            | _ => false) with
          | true => match rh x with
            | .d .nil => K (.d .nil) []
            | .d .emp => K (.d .emp) []
            | .d (.list _ _) => K (.d .emp) []
            | .slc _ _ _ _ _ => K (.d .emp) []
            | _ => False
          | false => False
        | _ => False
      | _ => False
    | none => match cx.T t with
      | some ti => match ti.u with
        | .string => match mx with
          | none => match rh x with
            | .d (.str b) => match obd rh lo 0, obd rh hi b.size with
              | some l, some h => im (0 ≤ l ∧ l ≤ h ∧ h ≤ (b.size : Int)) ∧ K (.d (.str (b.extract l.toNat h.toNat))) []
              | _, _ => False
            | _ => False
          | some _ => False
        | _ => False
      | none => False
  | .box _ x => match boxable (rh x) with
    | true => fLen L lits 0 fun k => K (.ref (.l k) 0) [.cells (rh x).cells]
    | false => False
  | .alloc t => match cx.T t with
    | some ti => fLen L lits 0 fun k => K (.ref (.l k) 0) [.cells (ti.zero.map .d)]
    | none => False
  | .makeMap _ none => fLen L lits 0 fun k => K (.mp (.l k)) [.dmap []]
  | .makeSlice t x y => match velem cx.T t with
    | some te => match rh x with
      | .d (.int _ l) => match rh y with
        | .d (.int _ c) => ∃ len cap : Nat, im (l = len ∧ c = cap ∧ len ≤ cap ∧ cap * te.bytes ≤ 281474976710656 ∧ cap ≤ 4611686018427387904) ∧ fLen L lits 0 fun k => K (.slc (.l k) te.size 0 len cap) [.row te.size (List.replicate len te.zero)]
        | _ => False
      | _ => False
    | none => False
  | .buildSlice t len parts => match velem cx.T t with
    | some te => match dataRows (parts.toList.map fun p => rh p.2) with
      | some rows => match Nat.beq parts.toList.length len && idxs 0 parts.toList && Nat.ble (len * te.size) 16777216 && allLen te.size rows with
        | true => fRows rows fun rows => match rows with
          | [] => K (.d .emp) []
          | r :: rs => K (.d (.list te.size (r :: rs))) []
        | false => False
      | none => False
    | none => False
  | .nilCheck x => match isNotNil (rh x) with
    | true => K (rh x) []
    | false => False
  | .call c => match c.callee with
    | .builtin .len => match c.args.toList with
      | [x] => match velem cx.T (c.argTypes.getD 0 0) with
        | some _ => match vlen (rh x) with
          | some n => match Nat.beq c.argTypes.size 1 with
            | true => K (.d (.int .i64 n)) []
            | false => False
          | none => False
        | none => match cx.T (c.argTypes.getD 0 0) with
          | some ti => match ti.u with
            | .map _ _ => match vmlen s (rh x) with
              | some n => match Nat.beq c.argTypes.size 1 with
                | true => K (.d (.int .i64 n)) []
                | false => False
              | none => False
            | .string => match rh x with
              | .d (.str b) => match Nat.beq c.argTypes.size 1 with
                | true => K (.d (.int .i64 (b.size : Int))) []
                | false => False
              | _ => False
            | _ => False
          | none => False
      | _ => False
    | .builtin .cap => match c.args.toList with
      | [x] => match velem cx.T (c.argTypes.getD 0 0) with
        | some _ => match vcap (rh x) with
          | some n => match Nat.beq c.argTypes.size 1 with
            | true => K (.d (.int .i64 n)) []
            | false => False
          | none => False
        | none => False
      | _ => False
    | .builtin .min => match c.args.toList with
      | [x, y] => match rh x with
        | .d (.int k a) => match rh y with
          | .d (.int _ b) => K (.d (.int k (if b < a then b else a))) []
          | _ => False
        | _ => False
      | _ => False
    | .builtin .max => match c.args.toList with
      | [x, y] => match rh x with
        | .d (.int k a) => match rh y with
          | .d (.int _ b) => K (.d (.int k (if b > a then b else a))) []
          | _ => False
        | _ => False
      | _ => False
    | .value f => match rh f with
      | .fn g caps => (∃ args' v, im (Lend s (c.args.toList.map rh ++ caps) args' ∧ (nrL args' && v.scal) = true ∧ Contract P cx.G g args' [] (fun r t => r = v ∧ t = [])) ∧ K v []) ∨
        (∃ args' v, im (WkL (c.args.toList.map rh ++ caps) args' ∧ (nrL args' && nrL [v]) = true ∧ Contract P cx.G g args' [] (fun r t => r = v ∧ t = [])) ∧ K v []) ∨
        (∃ v new, im (ReadsN P cx.G L s g (c.args.toList.map rh ++ caps) v new) ∧ K v new)
      | _ => False
    | _ => False
  | _ => False

theorem nr2 {a b : Bool} (h : (a && b) = true) : a = true ∧ b = true := by simpa using h
theorem varr_inv {T : Nat → Option TI} {t len : Nat} {te : TI} (h : varr T t = some (len, te)) : ∃ ti e, T t = some ti ∧ ti.u = .array len e ∧ T e = some te := by
  unfold varr at h
  split at h
  · rename_i ti hti
    split at h
    · rename_i l e he
      split at h
      · rename_i te' hte
        cases h
        exact ⟨ti, e, hti, he, hte⟩
      · cases h
    · cases h
  · cases h
theorem velem_inv {T : Nat → Option TI} {t : Nat} {te : TI} (h : velem T t = some te) : ∃ ti e, T t = some ti ∧ ti.u = .slice e ∧ T e = some te := by
  unfold velem at h
  split at h
  · rename_i ti hti
    split at h
    · rename_i e he
      exact ⟨ti, e, hti, he, h⟩
    · cases h
  · cases h

theorem pj_cond {P : Program} {G : Gl} {o : Oper} {rh : Operand → AV} {L : List AB} {s : List (Nat × AB)} {v : AV} {new : List AB} (hp : ∀ c x y, o.op ≠ .pick c x y) (h : PJ P G o rh L s v new) : PJ2 P G o rh L s v new := by
  intro M F U w a hS hG hO
  refine h M F U w a hS hG ?_
  unfold Opn at hO
  split at hO
  · rename_i c x y he; exact absurd he (hp c x y)
  · exact hO

theorem arr_toList {α : Type} {xs : Array α} {l : List α} (h : xs.toList = l) : xs = l.toArray := by rw [← h]

set_option maxHeartbeats 1000000 in
theorem vop_sound {P : Program} {cx : Ctx} (hT : TabOK P cx.T) {H : Prop} {im : Prop → Prop} (him : ∀ p, im p → H → p) {rh : Operand → AV} {L : List AB} {s : List (Nat × AB)} {o : Oper} {K : AV → List AB → Prop} (h : vop P cx im rh L s o.op K) :
    ∃ v new, (H → PJ2 P cx.G o rh L s v new) ∧ K v new := by
  have np : ∀ {op : Op}, o.op = op → (∀ c x y, op ≠ .pick c x y) → ∀ {v new}, (H → PJ P cx.G o rh L s v new) → (H → PJ2 P cx.G o rh L s v new) := by
    intro op he hn v new hp hH
    exact pj_cond (by rw [he]; exact hn) (hp hH)
  generalize hop : o.op = op at h
  cases op with
  | move x => exact ⟨_, _, np hop (by intros; simp) (fun _ => pj_move hop), h⟩
  | assign x => exact ⟨_, _, np hop (by intros; simp) (fun _ => pj_assign hop), h⟩
  | pick c x y =>
    simp only [vop] at h
    split at h <;> try exact h.elim
    rename_i p hc
    split at h <;> try exact h.elim
    · rename_i b1 h1
      split at h <;> try exact h.elim
      · rename_i b2 h2
        refine ⟨_, _, fun _ M F U w a hS hG hO => ?_, h⟩
        rw [hop] at hO
        simp only [Opn] at hO
        obtain ⟨q1, q2⟩ := hO
        obtain ⟨q3, q4⟩ := q2 p hc
        exact pj_pick hop hc M F U w a hS q1 (fun e => by rw [← h1]; exact q3 e) (fun e => by rw [← h2]; exact q4 e)
      · refine ⟨_, _, fun hH M F U w a hS hG hO => ?_, h.2⟩
        have hp := him _ h.1 hH
        subst hp
        rw [hop] at hO
        simp only [Opn] at hO
        obtain ⟨q1, q2⟩ := hO
        obtain ⟨q3, q4⟩ := q2 true hc
        exact pj_pick (b1 := b1) (b2 := b1) hop hc M F U w a hS q1 (fun e => by rw [← h1]; exact q3 e) (fun e => by cases e)
    · rename_i h1
      split at h <;> try exact h.elim
      rename_i b2 h2
      refine ⟨_, _, fun hH M F U w a hS hG hO => ?_, h.2⟩
      have hp := him _ h.1 hH
      subst hp
      rw [hop] at hO
      simp only [Opn] at hO
      obtain ⟨q1, q2⟩ := hO
      obtain ⟨q3, q4⟩ := q2 false hc
      exact pj_pick (b1 := b2) (b2 := b2) hop hc M F U w a hS q1 (fun e => by cases e) (fun e => by rw [← h2]; exact q4 e)
  | build t parts =>
    simp only [vop] at h
    obtain ⟨cs, hcs, h⟩ := vbuildK_get h
    exact ⟨_, _, np hop (by intros; simp) (fun _ => pj_build hT hop hcs), h⟩
  | binOp bop t x y ty =>
    simp only [vop] at h
    split at h
    · rename_i v hv
      exact ⟨_, _, np hop (by intros; simp) (fun _ => pj_bin hop hv), h⟩
    · have veq : ∀ {r}, veq1 cx.T t x y (rh x) (rh y) = some r → ∃ ti, cx.T t = some ti ∧ (isC x || isC y || (match ti.u with
          | .interface _ => false
          | _ => true)) = true ∧ veqv ti.u (rh x) (rh y) = some r := by
        intro r h
        unfold veq1 at h
        split at h <;> try cases h
        rename_i ti ht
        split at h <;> try cases h
        rename_i hc
        exact ⟨ti, ht, hc, h⟩
      split at h
      · split at h
        · rename_i r hr
          obtain ⟨ti, ht, hc, hr⟩ := veq hr
          exact ⟨_, _, np hop (by intros; simp) (fun _ => pj_eqv hT ht hop hc hr (.inl ⟨rfl, rfl⟩)), h⟩
        · split at h
          · obtain ⟨ti, ms, t1, b1, b2, tp, e, te, r, ht, hms, h1, h2, htp, he, hte, hsz, hr, h⟩ := vifeq_get h
            exact ⟨_, _, np hop (by intros; simp) (fun hH => pj_ifeq hT hop ht hms h1 h2 htp he hte hsz (him _ hr hH)), h⟩
          · obtain ⟨ti, ks, xs, ys, ht, ha, hk, hx, hy, k1, k2, hh, hq, h⟩ := eqsK_get h
            exact ⟨_, _, np hop (by intros; simp) (fun _ => pj_eqs hT ht hop hk ha hh hq hx hy k1 k2 (.inl ⟨rfl, rfl⟩)), h⟩
      · split at h
        · rename_i r hr
          obtain ⟨ti, ht, hc, hr⟩ := veq hr
          exact ⟨_, _, np hop (by intros; simp) (fun _ => pj_eqv hT ht hop hc hr (.inr ⟨rfl, rfl⟩)), h⟩
        · obtain ⟨ti, ks, xs, ys, ht, ha, hk, hx, hy, k1, k2, hh, hq, h⟩ := eqsK_get h
          exact ⟨_, _, np hop (by intros; simp) (fun _ => pj_eqs hT ht hop hk ha hh hq hx hy k1 k2 (.inr ⟨rfl, rfl⟩)), h⟩
      · split at h <;> try exact h.elim
        rename_i p q h1 h2
        exact ⟨_, _, np hop (by intros; simp) (fun _ => pj_sadd hop h1 h2 h.1), h.2⟩
      · split at h <;> try exact h.elim
        rename_i k a k' b h1 h2
        refine ⟨_, _, np hop (by intros; simp) (fun hH => ?_), h.2⟩
        obtain ⟨rfl, h0⟩ := him _ h.1 hH
        exact pj_div hop h1 h2 h0 (.inl ⟨rfl, rfl⟩)
      · split at h <;> try exact h.elim
        rename_i k a k' b h1 h2
        refine ⟨_, _, np hop (by intros; simp) (fun hH => ?_), h.2⟩
        obtain ⟨rfl, h0⟩ := him _ h.1 hH
        exact pj_div hop h1 h2 h0 (.inr ⟨rfl, rfl⟩)
      · exact h.elim
  | lookup t x k ok =>
    simp only [vop] at h
    split at h <;> try exact h.elim
    rename_i ti ht
    split at h <;> try exact h.elim
    rename_i kt et hu
    split at h <;> try exact h.elim
    rename_i c hk
    split at h <;> try exact h.elim
    rename_i te hte
    split at h <;> try exact h.elim
    rename_i kx hkx
    have hkx := dxOf_av hkx
    split at h <;> try exact h.elim
    · rename_i id hx
      split at h <;> try exact h.elim
      rename_i es hm
      obtain ⟨hs, r, hr, h⟩ := h
      exact ⟨_, _, np hop (by intros; simp) (fun hH => pj_lookup hT ht hu hk hte hs hop hx (sfind_mem hm) hkx (him _ hr hH).1 (him _ hr hH).2.1 (him _ hr hH).2.2), h⟩
    · rename_i hx
      obtain ⟨hr, h⟩ := h
      exact ⟨_, _, np hop (by intros; simp) (fun hH => pj_lookup_nil hT ht hu hk hte hop hx hkx (him _ hr hH)), h⟩
  | unOp uop t x =>
    simp only [vop] at h
    split at h
    · rename_i v hv
      exact ⟨_, _, np hop (by intros; simp) (fun _ => pj_un hop hv), h⟩
    · exact h.elim
  | field t x f =>
    simp only [vop] at h
    split at h <;> try exact h.elim
    rename_i ti hti
    split at h <;> try exact h.elim
    rename_i fs hu
    split at h <;> try exact h.elim
    rename_i fd hfd
    split at h <;> try exact h.elim
    rename_i tf htf
    split at h <;> try exact h.elim
    rename_i ha
    split at h <;> try exact h.elim
    rename_i cs hx
    split at h <;> try exact h.elim
    rename_i v hv
    exact ⟨_, _, np hop (by intros; simp) (fun _ => pj_part hT hti hu hfd htf ha hop hx hv), h⟩
  | convert src dst x =>
    simp only [vop] at h
    split at h <;> try exact h.elim
    rename_i ts hts
    split at h <;> try exact h.elim
    rename_i k1 hk1
    split at h <;> try exact h.elim
    rename_i td htd
    split at h <;> try exact h.elim
    rename_i k2 hk2
    split at h <;> try exact h.elim
    rename_i kx n hx
    exact ⟨_, _, np hop (by intros; simp) (fun _ => pj_conv hT hts hk1 htd hk2 hop hx), h⟩
  | extract x i =>
    simp only [vop] at h
    split at h <;> try exact h.elim
    rename_i vs hvs
    split at h <;> try exact h.elim
    rename_i v hv
    exact ⟨_, _, np hop (by intros; simp) (fun _ => pj_extract hop hvs hv), h⟩
  | makeInterface t x =>
    simp only [vop] at h
    split at h <;> try exact h.elim
    rename_i hp
    exact ⟨_, _, np hop (by intros; simp) (fun _ => pj_makeInterface hT hop hp), h⟩
  | typeAssert x xT t ok =>
    simp only [vop] at h
    obtain ⟨ti, r, hp, rfl, ht, hr, h⟩ := vassert_get h
    exact ⟨_, _, np hop (by intros; simp) (fun _ => pj_typeAssert hT hop hp ht hr), h⟩
  | makeFunc fn first caps =>
    cases fn with
    | func f =>
      simp only [vop] at h
      split at h <;> try exact h.elim
      rename_i hf
      have := arr_toList hf
      subst this
      exact ⟨_, _, np hop (by intros; simp) (fun _ => pj_makeFunc hop), h⟩
    | _ => exact (by simp [vop] at h)
  | load t x =>
    simp only [vop] at h
    split at h <;> try exact h.elim
    rename_i ti ht
    have key : ∀ {xs : List AV} {new : List AB}, new = [] → ld ti xs K → ∃ v, xs.length = ti.size ∧ ofCells ti.agg xs = some v ∧ K v new := by
      intro xs new hn hl
      unfold ld at hl
      split at hl <;> try exact hl.elim
      rename_i hb
      split at hl <;> try exact hl.elim
      rename_i v hv
      subst hn
      exact ⟨v, beq_t hb, hv, hl⟩
    split at h
    · rename_i k off hx
      split at h <;> try exact h.elim
      rename_i cs hk
      obtain ⟨v, h1, h2, h3⟩ := key rfl h
      exact ⟨_, _, np hop (by intros; simp) (fun _ => pj_load_cells hT ht hop hx (r := .l k) hk h1 h2), h3⟩
    · rename_i id off hx
      split at h <;> try exact h.elim
      rename_i cs hm
      obtain ⟨v, h1, h2, h3⟩ := key rfl h
      exact ⟨_, _, np hop (by intros; simp) (fun _ => pj_load_cells hT ht hop hx (r := .g id) (sfind_mem hm) h1 h2), h3⟩
    · rename_i cs off hx
      obtain ⟨v, h1, h2, h3⟩ := key rfl h
      exact ⟨_, _, np hop (by intros; simp) (fun _ => pj_load_ptr hT ht hop hx (by simpa using h1) h2), h3⟩
    · rename_i k sz i j hx
      split at h <;> try exact h.elim
      · rename_i sz' rows hk
        obtain ⟨row, hr, rfl, h⟩ := h
        obtain ⟨v, h1, h2, h3⟩ := key rfl h
        exact ⟨_, _, np hop (by intros; simp) (fun hH => pj_load_row hT ht hop hx (r := .l k) hk (him _ hr hH) (by simpa using h1) h2), h3⟩
      · rename_i sz' rows hk
        obtain ⟨row, hr, rfl, h⟩ := h
        obtain ⟨v, h1, h2, h3⟩ := key rfl h
        exact ⟨_, _, np hop (by intros; simp) (fun hH => pj_load_arow hT ht hop hx (r := .l k) hk (him _ hr hH) h1 h2), h3⟩
    · rename_i id sz i j hx
      split at h <;> try exact h.elim
      · rename_i sz' rows hm
        obtain ⟨row, hr, rfl, h⟩ := h
        obtain ⟨v, h1, h2, h3⟩ := key rfl h
        exact ⟨_, _, np hop (by intros; simp) (fun hH => pj_load_row hT ht hop hx (r := .g id) (sfind_mem hm) (him _ hr hH) (by simpa using h1) h2), h3⟩
      · rename_i sz' rows hm
        obtain ⟨row, hr, rfl, h⟩ := h
        obtain ⟨v, h1, h2, h3⟩ := key rfl h
        exact ⟨_, _, np hop (by intros; simp) (fun hH => pj_load_arow hT ht hop hx (r := .g id) (sfind_mem hm) (him _ hr hH) h1 h2), h3⟩
    · exact h.elim
  | fieldAddr t x f =>
    simp only [vop] at h
    split at h <;> try exact h.elim
    rename_i off hoff
    split at h <;> try exact h.elim
    rename_i v hv
    unfold vfld at hoff
    split at hoff <;> try (cases hoff; done)
    rename_i ti ht
    split at hoff <;> try (cases hoff; done)
    rename_i fs hfs
    split at hoff <;> try (cases hoff; done)
    rename_i fd hfd
    split at hoff <;> try (cases hoff; done)
    rename_i tf htf
    split at hoff <;> try (cases hoff; done)
    rename_i n hn
    cases hoff
    exact ⟨_, _, np hop (by intros; simp) (fun _ => pj_fieldAddr hT ht hfs hfd htf (by omega) hop hv), h⟩
  | indexAddr t x y =>
    simp only [vop] at h
    split at h
    rotate_left
    · split at h <;> try exact h.elim
      rename_i len te hte
      obtain ⟨ti, e, h1, h2, h3⟩ := varr_inv hte
      split at h <;> try exact h.elim
      rename_i k n hy
      obtain ⟨hr, h⟩ := h
      rw [fN_eq] at h
      split at h <;> try exact h.elim
      rename_i v hv
      exact ⟨_, _, np hop (by intros; simp) (fun hH => pj_index_arr hT h1 h2 h3 hop hy (him _ hr hH).1 (him _ hr hH).2 hv), h⟩
    rename_i te hte
    obtain ⟨ti, e, h1, h2, h3⟩ := velem_inv hte
    split at h <;> try exact h.elim
    rename_i k n hy
    split at h
    · rename_i sz rows hx
      split at h <;> try exact h.elim
      rename_i hsz
      have hsz := beq_t hsz
      obtain ⟨row, hr, h⟩ := h
      exact ⟨_, _, np hop (by intros; simp) (fun hH => pj_index_list hT h1 h2 h3 hop hx hy hsz (him _ hr hH).1 (him _ hr hH).2), h⟩
    · rename_i r sz off len hx
      split at h <;> try exact h.elim
      rename_i hsz
      have hsz := beq_t hsz
      obtain ⟨hr, h⟩ := h
      exact ⟨_, _, np hop (by intros; simp) (fun hH => pj_index_row hT h1 h2 h3 hop hx hy hsz (him _ hr hH).1 (him _ hr hH).2), h⟩
    · exact h.elim
  | index t x y =>
    simp only [vop] at h
    split at h <;> try exact h.elim
    rename_i ti ht
    split at h <;> try exact h.elim
    rename_i hu
    split at h <;> try exact h.elim
    rename_i k n hy
    split at h <;> try exact h.elim
    rename_i b hx
    obtain ⟨c, hr, h⟩ := h
    exact ⟨_, _, np hop (by intros; simp) (fun hH => pj_sindex hT ht hu hop hx hy (him _ hr hH).1 (him _ hr hH).2), h⟩
  | slice t x lo hi mx =>
    simp only [vop] at h
    split at h
    rotate_left
    · split at h <;> try exact h.elim
      rename_i ti ht
      split at h <;> try exact h.elim
      rename_i hu
      split at h <;> try exact h.elim
      split at h <;> try exact h.elim
      rename_i b hx
      split at h <;> try exact h.elim
      rename_i l hh hl hhi
      obtain ⟨hr, h⟩ := h
      exact ⟨_, _, np hop (by intros; simp) (fun hH => pj_sslice hT ht hu hop hx hl hhi (him _ hr hH).1 (him _ hr hH).2.1 (him _ hr hH).2.2), h⟩
    rename_i te hte
    obtain ⟨ti, e, h1, h2, h3⟩ := velem_inv hte
    split at h <;> try exact h.elim
    · split at h <;> try exact h.elim
      rename_i l hl
      split at h <;> try exact h.elim
      · rename_i sz rows hx
        split at h <;> try exact h.elim
        rename_i hh hb
        have := beq_t hb
        subst this
        exact ⟨_, _, np hop (by intros; simp) (fun hH => pj_slice hT h1 h2 h3 hop (by simp only [hx]; exact ⟨trivial, hl, hh, (him _ h.1 hH).1, (him _ h.1 hH).2.1, (him _ h.1 hH).2.2, rfl⟩)), h.2⟩
      · rename_i hx
        split at h <;> try exact h.elim
        rename_i hh
        exact ⟨_, _, np hop (by intros; simp) (fun hH => pj_slice hT h1 h2 h3 hop (by simp only [hx]; exact ⟨hl, hh, (him _ h.1 hH).1, (him _ h.1 hH).2, trivial⟩)), h.2⟩
      · rename_i hx
        split at h <;> try exact h.elim
        rename_i hh
        exact ⟨_, _, np hop (by intros; simp) (fun hH => pj_slice hT h1 h2 h3 hop (by simp only [hx]; exact ⟨hl, hh, (him _ h.1 hH).1, (him _ h.1 hH).2, trivial⟩)), h.2⟩
      · rename_i r sz off len cap hx
        split at h <;> try exact h.elim
        rename_i hh hb
        have := beq_t hb
        subst this
        exact ⟨_, _, np hop (by intros; simp) (fun hH => pj_slice hT h1 h2 h3 hop (by simp only [hx]; exact ⟨trivial, hl, hh, (him _ h.1 hH).1, (him _ h.1 hH).2.1, (him _ h.1 hH).2.2, rfl⟩)), h.2⟩
    · split at h <;> try exact h.elim
      split at h <;> try exact h.elim
      rename_i hlo
      have hlo : lo = none ∨ ∃ k, lo = some (.const (.int k 0)) := by
        split at hlo
        · exact .inl rfl
        · exact .inr ⟨_, rfl⟩
        · cases hlo
      split at h <;> try exact h.elim
      · rename_i hx
        exact ⟨_, _, np hop (by intros; simp) (fun _ => by have := pj_slice0 (P := P) (G := cx.G) (L := L) (s := s) (rh := rh) hT h1 h2 h3 hlo hop (by simp only [hx]); simpa only [hx] using this), h⟩
      · rename_i hx
        exact ⟨_, _, np hop (by intros; simp) (fun _ => by have := pj_slice0 (P := P) (G := cx.G) (L := L) (s := s) (rh := rh) hT h1 h2 h3 hlo hop (by simp only [hx]); simpa only [hx] using this), h⟩
      · rename_i hx
        exact ⟨_, _, np hop (by intros; simp) (fun _ => by have := pj_slice0 (P := P) (G := cx.G) (L := L) (s := s) (rh := rh) hT h1 h2 h3 hlo hop (by simp only [hx]); simpa only [hx] using this), h⟩
      · rename_i hx
        exact ⟨_, _, np hop (by intros; simp) (fun _ => by have := pj_slice0 (P := P) (G := cx.G) (L := L) (s := s) (rh := rh) hT h1 h2 h3 hlo hop (by simp only [hx]); simpa only [hx] using this), h⟩
  | box t x =>
    simp only [vop] at h
    split at h <;> try exact h.elim
    rename_i hb
    exact ⟨_, _, np hop (by intros; simp) (fun _ => pj_box hop hb), by simpa only [fLen_eq, Nat.add_zero] using h⟩
  | alloc t =>
    simp only [vop] at h
    split at h <;> try exact h.elim
    rename_i ti ht
    exact ⟨_, _, np hop (by intros; simp) (fun _ => pj_alloc hT ht hop), by simpa only [fLen_eq, Nat.add_zero] using h⟩
  | makeMap t n =>
    cases n with
    | some n => exact (by simp [vop] at h)
    | none =>
      simp only [vop] at h
      exact ⟨_, _, np hop (by intros; simp) (fun _ => pj_makeMap hop), by simpa only [fLen_eq, Nat.add_zero] using h⟩
  | makeSlice t x y =>
    simp only [vop] at h
    split at h <;> try exact h.elim
    rename_i te hte
    obtain ⟨ti, e, h1, h2, h3⟩ := velem_inv hte
    split at h <;> try exact h.elim
    rename_i k1 l hx
    split at h <;> try exact h.elim
    rename_i k2 c hy
    obtain ⟨len, cap, hr, h⟩ := h
    refine ⟨.slc (.l L.length) te.size 0 len cap, [.row te.size (List.replicate len te.zero)], np hop (by intros; simp) (fun hH => ?_), by simpa only [fLen_eq, Nat.add_zero] using h⟩
    obtain ⟨rfl, rfl, q1, q2, q3⟩ := him _ hr hH
    exact pj_makeSlice hT h1 h2 h3 hop hx hy q1 q2 q3
  | buildSlice t len parts =>
    simp only [vop] at h
    split at h <;> try exact h.elim
    rename_i te hte
    obtain ⟨ti, e, h1, h2, h3⟩ := velem_inv hte
    split at h <;> try exact h.elim
    rename_i rows hrows
    split at h <;> try exact h.elim
    rename_i hb
    rw [fRows_eq] at h
    simp only [Bool.and_eq_true] at hb
    obtain ⟨⟨⟨b1, b2⟩, b3⟩, b4⟩ := hb
    have hp := fun _ : H => pj_lit (G := cx.G) (L := L) (s := s) (o := o) hT h1 h2 h3 hop (beq_t b1) b2 (Nat.le_of_ble_eq_true b3) hrows b4
    cases rows with
    | nil => exact ⟨_, _, np hop (by intros; simp) hp, h⟩
    | cons r rs => exact ⟨_, _, np hop (by intros; simp) hp, h⟩
  | nilCheck x =>
    simp only [vop] at h
    split at h <;> try exact h.elim
    rename_i hb
    refine ⟨_, _, np hop (by intros; simp) (fun _ => pj_nilCheck hop ?_), h⟩
    generalize rh x = y at hb ⊢
    cases y with
    | d z => cases z <;> first | exact True.intro | (cases hb; done)
    | _ => first | trivial | (cases hb)
  | call c =>
    simp only [vop] at h
    obtain ⟨callee, args, tys⟩ := c
    simp only at h
    split at h
    · split at h <;> try exact h.elim
      rename_i x hargs
      have hty : ∀ {b : Bool}, Nat.beq tys.size 1 = b → b = true → tys = #[tys.getD 0 0] := by
        intro b hsz hb
        subst hb
        have := beq_t hsz
        apply Array.ext
        · simp [this]
        · intro i hi1 hi2
          simp at hi2
          subst hi2
          simp [Array.getD_eq_getD_getElem?, Array.getElem?_eq_getElem hi1]
      have ha := arr_toList hargs
      subst ha
      split at h
      · rename_i te hte
        split at h <;> try exact h.elim
        rename_i n hn
        split at h <;> try exact h.elim
        rename_i hsz
        obtain ⟨ti, e, h1, h2, h3⟩ := velem_inv hte
        rw [hty hsz rfl] at hop
        exact ⟨_, _, np hop (by intros; simp) (fun _ => pj_len hT h1 h2 (ty := 0) hop rfl hn), h⟩
      · split at h <;> try exact h.elim
        rename_i ti ht
        split at h <;> try exact h.elim
        · rename_i km em hu
          split at h <;> try exact h.elim
          rename_i n hn
          split at h <;> try exact h.elim
          rename_i hsz
          rw [hty hsz rfl] at hop
          exact ⟨_, _, np hop (by intros; simp) (fun _ => pj_mlen hT ht hu hop hn), h⟩
        · rename_i hu
          split at h <;> try exact h.elim
          rename_i b hb
          split at h <;> try exact h.elim
          rename_i hsz
          rw [hty hsz rfl] at hop
          exact ⟨_, _, np hop (by intros; simp) (fun _ => pj_slen hT ht hu hop hb), h⟩
    · split at h <;> try exact h.elim
      rename_i x hargs
      have ha := arr_toList hargs
      subst ha
      split at h <;> try exact h.elim
      rename_i te hte
      split at h <;> try exact h.elim
      rename_i n hn
      split at h <;> try exact h.elim
      rename_i hsz
      obtain ⟨ti, e, h1, h2, h3⟩ := velem_inv hte
      have hty : tys = #[tys.getD 0 0] := by
        have := beq_t hsz
        apply Array.ext
        · simp [this]
        · intro i hi1 hi2
          simp at hi2
          subst hi2
          simp [Array.getD_eq_getD_getElem?, Array.getElem?_eq_getElem hi1]
      rw [hty] at hop
      exact ⟨_, _, np hop (by intros; simp) (fun _ => pj_cap hT h1 h2 hop hn), h⟩
    · split at h <;> try exact h.elim
      rename_i x y hargs
      have ha := arr_toList hargs
      subst ha
      split at h <;> try exact h.elim
      rename_i k a hx
      split at h <;> try exact h.elim
      rename_i k2 b hy
      exact ⟨_, _, np hop (by intros; simp) (fun _ => pj_min hop hx hy), h⟩
    · split at h <;> try exact h.elim
      rename_i x y hargs
      have ha := arr_toList hargs
      subst ha
      split at h <;> try exact h.elim
      rename_i k a hx
      split at h <;> try exact h.elim
      rename_i k2 b hy
      exact ⟨_, _, np hop (by intros; simp) (fun _ => pj_max hop hx hy), h⟩
    · split at h <;> try exact h.elim
      rename_i g caps hg
      rcases h with ⟨args', v, h1, h2⟩ | ⟨args', v, h1, h2⟩ | ⟨v, new, h1, h2⟩
      · exact ⟨_, _, np hop (by intros; simp) (fun hH => pj_call_lend hop hg (him _ h1 hH).1 (nr2 (him _ h1 hH).2.1).1 (nr2 (him _ h1 hH).2.1).2 (him _ h1 hH).2.2), h2⟩
      · exact ⟨_, _, np hop (by intros; simp) (fun hH => pj_call hop hg (him _ h1 hH).1 (nr2 (him _ h1 hH).2.1).1 (nr2 (him _ h1 hH).2.1).2 (him _ h1 hH).2.2), h2⟩
      · exact ⟨_, _, np hop (by intros; simp) (fun hH => pj_grow hop hg (him _ h1 hH)), h2⟩
    · exact h.elim
  | _ => exact (by simp [vop] at h)

end Go.Pv
/- Operations that write: stores; calls of whatever kind. -/
namespace Go.Pv
open Go.RowKit

structure Eff (M : Mp) (F U : Nat → Prop) (s : List (Nat × AB)) (w : World) (L' : List AB) (s' : List (Nat × AB)) (v : AV) (val : Value) (M' : Mp) (F' U' : Nat → Prop) (w' : World) : Prop where
  le : M.Le M'
  FF : ∀ b, F b → F' b
  UU : ∀ b, U b → U' b
  ext : Ext U w w'
  st : St M' F' U' L' s' w'
  rv : RV M' F' w' v val
  Fn : ∀ b, F' b → F b ∨ w.heap.size ≤ b ∨ LiveG M.g s b ∨ ∃ k, M.l k = some b
  ll : ∀ k b, M'.l k = some b → w.heap.size ≤ b ∨ ∃ k', M.l k' = some b
  lg : ∀ id ab b, (id, ab) ∈ s' → ab ≠ .dead → M'.g id = some b → w.heap.size ≤ b ∨ LiveG M.g s b ∨ ∃ k, M.l k = some b
  ids : ∀ id ab, (id, ab) ∈ s' → (∃ ab0, (id, ab0) ∈ s) ∨ M.g id = none

def EJ (P : Program) (G : Gl) (o : Oper) (rh : Operand → AV) (L : List AB) (s : List (Nat × AB)) (K : AV → List AB → List (Nat × AB) → Prop) : Prop :=
  ∀ (M : Mp) (F U : Nat → Prop) (w : World) (a : Act), St M F U L s w → Glob G F w → (∀ x ∈ o.op.operands.toList, RV M F w (rh x) (a.eval x)) →
    o.wp P a w (fun a' w' => ∃ v L' s' val M' F' U', K v L' s' ∧ a' = a.put o.dst val ∧ Eff M F U s w L' s' v val M' F' U' w') (fun _ _ _ => False)

section
variable {P : Program} {G : Gl} {T : Nat → Option TI} {o : Oper} {rh : Operand → AV} {L : List AB} {s : List (Nat × AB)} {M : Mp} {F U : Nat → Prop} {w : World}

/-- A place's contents put anew. -/
inductive Put (ab0 ab1 : AB) : List AB → List (Nat × AB) → Rf → List AB → List (Nat × AB) → Prop
  | l (L : List AB) (s : List (Nat × AB)) (k : Nat) (h : L[k]? = some ab0) : Put ab0 ab1 L s (.l k) (L.set k ab1) s
  | g (L : List AB) (s1 s2 : List (Nat × AB)) (id : Nat) : Put ab0 ab1 L (s1 ++ (id, ab0) :: s2) (.g id) L (s1 ++ (id, ab1) :: s2)
theorem Put.here {L L' : List AB} {s s' : List (Nat × AB)} {r : Rf} {ab0 ab1 : AB} (h : Put ab0 ab1 L s r L' s') : Here L s r ab0 := by
  cases h with
  | l _ k h => exact h
  | g s1 s2 id => simp [Here]
theorem Put.spec {L L' : List AB} {s s' : List (Nat × AB)} {r : Rf} {ab0 ab1 : AB} (h : Put ab0 ab1 L s r L' s') (hnd : (s.map (·.1)).Nodup) :
    (∀ r' ab, Here L' s' r' ab → (r' = r ∧ ab = ab1) ∨ (r' ≠ r ∧ Here L s r' ab)) ∧ (s'.map (·.1)) = s.map (·.1) ∧ L'.length = L.length := by
  cases h with
  | l _ k h =>
    refine ⟨fun r' ab hr => ?_, rfl, by simp⟩
    cases r' with
    | g id => exact .inr ⟨by simp, hr⟩
    | l j =>
      simp only [Here] at hr
      by_cases e : k = j
      · subst e
        rw [List.getElem?_set_self (List.getElem?_eq_some_iff.1 h).1] at hr
        cases hr
        exact .inl ⟨rfl, rfl⟩
      · rw [List.getElem?_set_ne e] at hr
        exact .inr ⟨fun h => by cases h; exact e rfl, hr⟩
  | g s1 s2 id =>
    refine ⟨fun r' ab hr => ?_, by simp, rfl⟩
    cases r' with
    | l j => exact .inr ⟨by simp, hr⟩
    | g j =>
      simp only [Here, List.mem_append, List.mem_cons] at hr
      rw [List.map_append, List.map_cons] at hnd
      have h3 := List.nodup_append.1 hnd
      rcases hr with hr | hr | hr
      · refine .inr ⟨fun h => ?_, by simp [Here, hr]⟩
        cases h
        exact h3.2.2 id (List.mem_map.2 ⟨_, hr, rfl⟩) id (by simp) rfl
      · cases hr
        exact .inl ⟨rfl, rfl⟩
      · refine .inr ⟨fun h => ?_, by simp [Here, hr]⟩
        cases h
        have := (List.nodup_cons.1 h3.2.1).1
        exact this (List.mem_map.2 ⟨_, hr, rfl⟩)

theorem Put.gput {L : List AB} {s : List (Nat × AB)} {id : Nat} {ab0 : AB} (ab1 : AB) (h : sfind s id = some ab0) : Put ab0 ab1 L s (.g id) L (sput s id ab1) := by
  have : ∀ {s : List (Nat × AB)}, sfind s id = some ab0 → ∃ s1 s2, s = s1 ++ (id, ab0) :: s2 ∧ sput s id ab1 = s1 ++ (id, ab1) :: s2 := by
    intro s
    induction s with
    | nil => intro h; simp [sfind] at h
    | cons x r ih =>
      obtain ⟨i, y⟩ := x
      intro h
      simp only [sfind] at h
      split at h
      · rename_i hb
        cases h
        have := Nat.eq_of_beq_eq_true hb
        subst this
        exact ⟨[], r, rfl, by simp [sput]⟩
      · rename_i hb
        obtain ⟨s1, s2, h1, h2⟩ := ih h
        exact ⟨(i, y) :: s1, s2, by rw [h1]; rfl, by simp only [sput, hb, h2]; rfl⟩
  obtain ⟨s1, s2, h1, h2⟩ := this h
  rw [h2, h1]
  exact .g L s1 s2 id

theorem shape_setRow {b : Nat} {old new : Array Value} {t : TypeId} {fr : Nat × Nat} (hb : w.heap[b]? = some (.cells old t fr)) (hsz : new.size = old.size) (x : Nat) : (w.setRow b new).shape? x = w.shape? x := by
  unfold World.shape?
  by_cases e : x = b
  · subst e
    rw [setRow_heap w x old new t fr hb, hb]
    simp [hsz]
  · rw [setRow_other w b x new e]

theorem eff_write {L' : List AB} {s' : List (Nat × AB)} {r : Rf} {ab0 ab1 : AB} {b : Nat} {old new : Array Value} {t : TypeId} (hS : St M F U L s w) (hp : Put ab0 ab1 L s r L' s') (hd : ab0 ≠ .dead) (hm : M.at_ r = some b)
    (hb : w.heap[b]? = some (.cells old t (0, 0))) (hsz : new.size = old.size) (hrb : ∀ w', Ext U w w' → w'.heap[b]? = some (.cells new t (0, 0)) → RB (M.sub r) F w' b ab1) :
    Eff M F U s w L' s' (.d (.raw .nilIface)) .nilIface M F U (w.setRow b new) := by
  obtain ⟨hsp, hids, hlen⟩ := hp.spec hS.nd
  have hnU := hS.nU r ab0 b hp.here hd hm
  have hX : Ext U w (w.setRow b new) := ⟨rfl, rfl, rfl, by simp, fun x hx => setRow_other w b x new (fun e => hnU (e ▸ hx)), fun x _ => shape_setRow hb hsz x⟩
  have hself : (w.setRow b new).heap[b]? = some (.cells new t (0, 0)) := setRow_heap w b old new t (0, 0) hb
  have hidm : ∀ id ab, (id, ab) ∈ s' → ∃ ab0, (id, ab0) ∈ s := fun id ab h => by
    have : id ∈ s'.map (·.1) := List.mem_map.2 ⟨_, h, rfl⟩
    rw [hids] at this
    obtain ⟨⟨i, a⟩, h1, h2⟩ := List.mem_map.1 this
    simp only at h2
    subst h2
    exact ⟨a, h1⟩
  refine ⟨.refl M, fun _ h => h, fun _ h => h, hX, ?_, .d (.raw _ rfl), fun _ h => .inl h, fun k b h => .inr ⟨k, h⟩, fun id ab b' h hd' hb' => ?_, fun id ab h => .inl (hidm id ab h)⟩
  · refine ⟨fun r' ab b' hr hm' => ?_, fun r1 r2 a1 a2 b' h1 h2 d1 d2 m1 m2 => ?_, fun r' ab b' hr hd' hm' => ?_, by rw [hids]; exact hS.nd, hS.FU, fun x hx => by simpa using hS.Ult x hx, fun k hk => hS.dom k (by omega), fun id ab h => ?_, fun id h => hS.gdom id fun ab hab => ?_⟩
    · rcases hsp r' ab hr with ⟨rfl, rfl⟩ | ⟨hne, h⟩
      · rw [hm] at hm'
        cases hm'
        exact hrb _ hX hself
      · refine (hS.rb r' ab b' h hm').mono (.refl _) (fun _ h => h) hS.FU hX (fun hd' => setRow_other w b b' new (fun e => ?_))
        subst e
        exact hne (hS.inj r' r ab ab0 b' h hp.here hd' hd hm' hm)
    · have one : ∀ r' ab, Here L' s' r' ab → ab ≠ .dead → ∃ ab', Here L s r' ab' ∧ ab' ≠ .dead := fun r' ab hr hd' => by
        rcases hsp r' ab hr with ⟨rfl, rfl⟩ | ⟨_, h⟩
        · exact ⟨ab0, hp.here, hd⟩
        · exact ⟨ab, h, hd'⟩
      obtain ⟨x1, q1, e1⟩ := one r1 a1 h1 d1
      obtain ⟨x2, q2, e2⟩ := one r2 a2 h2 d2
      exact hS.inj r1 r2 x1 x2 b' q1 q2 e1 e2 m1 m2
    · rcases hsp r' ab hr with ⟨rfl, rfl⟩ | ⟨_, h⟩
      · exact hS.nU r' ab0 b' hp.here hd hm'
      · exact hS.nU r' ab b' h hd' hm'
    · obtain ⟨ab0', h'⟩ := hidm id ab h
      exact hS.tot id ab0' h'
    · have : id ∈ s.map (·.1) := List.mem_map.2 ⟨_, hab, rfl⟩
      rw [← hids] at this
      obtain ⟨⟨i, a⟩, h1, h2⟩ := List.mem_map.1 this
      simp only at h2
      subst h2
      exact h a h1
  · right; left
    rcases hsp (.g id) ab h with ⟨e, rfl⟩ | ⟨_, h'⟩
    · subst e
      exact ⟨id, ab0, hp.here, hd, hb'⟩
    · exact ⟨id, ab, h', hd', hb'⟩

/-- What a store writes. -/
theorem run_store_cells {t : TypeId} {ti : TI} (hT : TabOK P T) (ht : T t = some ti) {b off : Nat} {v : Value} {arr : Array Value} {tt : TypeId} (hb : w.heap[b]? = some (.cells arr tt (0, 0))) (hsz : v.cells.size = ti.size) (hin : off + ti.size ≤ arr.size) (h1 : ∀ (j : Nat) (u : Value), v.cells[j]? = some u → u.oneCell' = true) :
    (Instr.storeAt t (.pointer (some ⟨b, off, none⟩)) v).run P w = .ok () (w.setRow b (setN arr.toList off v.cells.toList).toArray) := by
  obtain ⟨_, _, i, _, _, h3, h4, _⟩ := hT t ti ht
  unfold Instr.storeAt Instr.sureAddr storeVar
  simp only [Sem.run_bind, Sem.run_pure, Result.andThen_ok, run_sizeOf' h3, h4]
  rw [if_neg (by omega)]
  have := run_storeCells_at (P := P) b off tt v.cells.toList 0 arr w hb (by simp; omega) (fun u hu => by
    obtain ⟨j, hj, rfl⟩ := List.mem_iff_getElem.1 hu
    exact h1 j _ (by simp at hj; simp [hj]))
  rw [this]
  simp [setN]

theorem ej_store_cells {t : TypeId} {ti : TI} (hT : TabOK P T) (ht : T t = some ti) {x y : Operand} {r : Rf} {off : Nat} {cs : List AV} {L' : List AB} {s' : List (Nat × AB)} {K : AV → List AB → List (Nat × AB) → Prop} (ho : o.op = .store t x y) (hx1 : rh x = .ref r off)
    (hb : boxable (rh y) = true) (hsz : (rh y).cells.length = ti.size) (hin : off + ti.size ≤ cs.length) (hcl : ∀ id, r = .g id → clL (rh y).cells = true) (hp : Put (.cells cs) (.cells (setN cs off (rh y).cells)) L s r L' s')
    (hK : K .undef L' s') : EJ P G o rh L s K := by
  intro M F U w a hS hG hx
  have h1 := hx x (by simp [ho, Op.operands])
  have h2 := hx y (by simp [ho, Op.operands])
  rw [hx1] at h1
  have hc := h2.cells (fun vs e => by rw [e] at hb; simp [boxable] at hb) (fun e => by rw [e] at hb; simp [boxable] at hb)
  generalize he : a.eval x = u at h1
  cases h1 with
  | ref _ _ b hm =>
    obtain ⟨arr, tt, hbk, hasz, hac⟩ := hS.rb r _ b hp.here hm
    have hrun := run_store_cells hT ht hbk (v := a.eval y) (off := off) (by rw [hc.1, hsz]) (by omega) (fun j u hu => by
      have hj : j < (rh y).cells.length := by have := (Array.getElem?_eq_some_iff.1 hu).1; omega
      exact (hc.2 j _ u (List.getElem?_eq_getElem hj) hu).1)
    have hE := eff_write hS hp (by simp) hm hbk (new := (setN arr.toList off (a.eval y).cells.toList).toArray) (by simp only [List.size_toArray]; rw [setN_len (by simp [hc.1]; omega)]; simp) (fun w' hX hnew => by
      refine ⟨_, tt, hnew, by simp only [List.size_toArray]; rw [setN_len (by simp [hc.1]; omega), setN_len (by omega)]; simp [hasz], fun j z u hz hu => ?_⟩
      simp only [List.getElem?_toArray] at hu
      rw [setN_get (by omega)] at hz
      rw [setN_get (by simp [hc.1]; omega)] at hu
      simp only [Array.length_toList, hc.1] at hu
      by_cases hj : off ≤ j ∧ j < off + (rh y).cells.length
      · rw [if_pos hj] at hz hu
        have := hc.2 (j - off) z u hz (by simpa using hu)
        refine ⟨this.1, ?_⟩
        have hrv : RV (M.sub r) F w z u := by
          cases r with
          | l k => exact this.2
          | g id => exact this.2.closed (clL_at (hcl id rfl) hz)
        exact hrv.mono (.refl _) (fun _ h => h) hS.FU hX
      · rw [if_neg hj] at hz hu
        have := hac j z u hz (by simpa using hu)
        exact ⟨this.1, this.2.mono (.refl _) (fun _ h => h) hS.FU hX⟩)
    refine wp_skip' (w' := w.setRow b (setN arr.toList off (a.eval y).cells.toList).toArray) ?_ ⟨.undef, L', s', Go.undef, M, F, U, hK, rfl, hE.le, hE.FF, hE.UU, hE.ext, hE.st, .undef _, hE.Fn, hE.ll, hE.lg, hE.ids⟩
    simp only [execOp, ho, he, Sem.run_bind, hrun, Result.andThen_ok, Sem.run_pure]

/-- A new object that is told of from now on. -/
def Mp.putG (M : Mp) (n b : Nat) : Mp := ⟨M.l, fun id => if id = n then some b else M.g id⟩
theorem eff_alloc {n : Nat} {ab : AB} {v : AV} {val : Value} (hS : St M F U L s w) (o : Obj) (hn : sfind s n = none)
    (hb : ∀ w' M', M.glo.Le M' → Ext (fun b => b < w.heap.size) w w' → w'.heap[w.heap.size]? = some o → RB M' F w' w.heap.size ab)
    (hv : ∀ w' M', M.Le M' → M'.g n = some w.heap.size → Ext (fun b => b < w.heap.size) w w' → RV M' F w' v val) :
    Eff M F U s w L (s ++ [(n, ab)]) v val (M.putG n w.heap.size) F U (w.alloc o) := by
  have hfr := sfind_none hn
  have hgn : M.g n = none := hS.gdom n hfr
  have hle : M.Le (M.putG n w.heap.size) := by
    intro r b h
    cases r with
    | l k => exact h
    | g id =>
      simp only [Mp.at_, Mp.putG] at h ⊢
      by_cases e : id = n
      · subst e; rw [hgn] at h; cases h
      · rw [if_neg e]; exact h
  have hx := ext_alloc w o
  have hnew : (w.alloc o).heap[w.heap.size]? = some o := heap_alloc_new w o
  have hold : ∀ r, r ≠ .g n → (M.putG n w.heap.size).at_ r = M.at_ r := by
    intro r hr
    cases r with
    | l k => rfl
    | g id => simp only [Mp.at_, Mp.putG]; rw [if_neg (fun e => hr (by rw [e]))]
  have hself : (M.putG n w.heap.size).at_ (.g n) = some w.heap.size := by simp [Mp.at_, Mp.putG]
  have hcase : ∀ r ab', Here L (s ++ [(n, ab)]) r ab' → (Here L s r ab' ∧ r ≠ .g n) ∨ (r = .g n ∧ ab' = ab) := by
    intro r ab' hr
    cases r with
    | l k => exact .inl ⟨hr, by simp⟩
    | g id =>
      simp only [Here, List.mem_append, List.mem_singleton] at hr
      rcases hr with hr | hr
      · refine .inl ⟨hr, fun e => ?_⟩
        cases e
        exact hfr _ hr
      · cases hr; exact .inr ⟨rfl, rfl⟩
  have hFU : ∀ b, F b → b < w.heap.size := fun b hb => hS.Ult b (hS.FU b hb)
  refine ⟨hle, fun _ h => h, fun _ h => h, hx.mono hS.Ult, ?_, hv _ _ hle (by simp [Mp.putG]) hx, fun b h => .inl h, fun k b h => .inr ⟨k, h⟩, fun id ab' b h hd hb' => ?_, fun id ab' h => ?_⟩
  · refine ⟨fun r ab' b hr hm => ?_, fun r r' a1 a2 b h1 h2 d1 d2 m1 m2 => ?_, fun r a1 b h1 d1 m1 hu => ?_, ?_, hS.FU, fun b hb' => ?_, hS.dom, fun id ab' h => ?_, fun id h => ?_⟩
    · rcases hcase r ab' hr with ⟨h1, h2⟩ | ⟨rfl, rfl⟩
      · rw [hold r h2] at hm
        exact (hS.rb r ab' b h1 hm).mono (hle.sub r) (fun _ h => h) hFU hx (fun hd => hx.block b (hS.lt h1 hd hm))
      · rw [hself] at hm
        cases hm
        exact hb _ _ hle.glo hx hnew
    · rcases hcase r a1 h1 with ⟨e1, k1⟩ | ⟨rfl, rfl⟩ <;> rcases hcase r' a2 h2 with ⟨e2, k2⟩ | ⟨rfl, rfl⟩
      · rw [hold r k1] at m1; rw [hold r' k2] at m2
        exact hS.inj r r' a1 a2 b e1 e2 d1 d2 m1 m2
      · rw [hold r k1] at m1
        rw [hself] at m2
        cases m2
        exact absurd (hS.lt e1 d1 m1) (Nat.lt_irrefl _)
      · rw [hold r' k2] at m2
        rw [hself] at m1
        cases m1
        exact absurd (hS.lt e2 d2 m2) (Nat.lt_irrefl _)
      · rfl
    · rcases hcase r a1 h1 with ⟨h1, k1⟩ | ⟨rfl, rfl⟩
      · rw [hold r k1] at m1
        exact hS.nU r a1 b h1 d1 m1 hu
      · rw [hself] at m1
        cases m1
        exact absurd (hS.Ult _ hu) (Nat.lt_irrefl _)
    · rw [List.map_append]
      refine List.nodup_append.2 ⟨hS.nd, by simp, fun x hx y hy e => ?_⟩
      simp only [List.map_cons, List.map_nil, List.mem_singleton] at hy
      subst hy
      subst e
      obtain ⟨⟨i, a⟩, h1, h2⟩ := List.mem_map.1 hx
      simp only at h2
      subst h2
      exact hfr a h1
    · have := hS.Ult b hb'; simp; omega
    · rcases hcase (.g id) ab' h with ⟨h1, h2⟩ | ⟨e, _⟩
      · obtain ⟨b, hb⟩ := hS.tot id ab' h1
        exact ⟨b, hle (.g id) b hb⟩
      · cases e; exact ⟨_, hself⟩
    · have hne : id ≠ n := fun e => h ab (by rw [e]; simp)
      have := hold (.g id) (fun e => hne (by cases e; rfl))
      simp only [Mp.at_] at this
      rw [this]
      exact hS.gdom id (fun ab' hab => h ab' (by simp [hab]))
  · rcases hcase (.g id) ab' h with ⟨h1, h2⟩ | ⟨e, _⟩
    · have := hold (.g id) h2
      simp only [Mp.at_] at this
      rw [this] at hb'
      exact .inr (.inl ⟨id, ab', h1, hd, hb'⟩)
    · cases e
      have : w.heap.size = b := by
        have h1 : (M.putG n w.heap.size).g n = some w.heap.size := hself
        rw [h1] at hb'
        exact Option.some.inj hb'
      exact .inl (by omega)
  · rcases hcase (.g id) ab' h with ⟨h1, _⟩ | ⟨e, _⟩
    · exact .inl ⟨ab', h1⟩
    · cases e; exact .inr hgn

theorem rb_cells {M' : Mp} {w' : World} {cs : List AV} {arr : Array Value} {t : TypeId} (hS : St M F U L s w) (hsz : arr.size = cs.length) (hcl : clL cs = true)
    (hc : ∀ (j : Nat) (y : AV) (u : Value), cs[j]? = some y → arr[j]? = some u → u.oneCell' = true ∧ RV M F w y u) (hle : M.glo.Le M') (hx : Ext (fun b => b < w.heap.size) w w') {b : Nat} (hn : w'.heap[b]? = some (.cells arr t (0, 0))) : RB M' F w' b (.cells cs) :=
  ⟨arr, t, hn, hsz, fun j x u hj hu => ⟨(hc j x u hj hu).1, ((hc j x u hj hu).2.closed (clL_at hcl hj)).mono hle (fun _ h => h) (fun b hb => hS.Ult b (hS.FU b hb)) hx⟩⟩

theorem ej_box {t : TypeId} {x : Operand} {n : Nat} {K : AV → List AB → List (Nat × AB) → Prop} (ho : o.op = .box t x) (hb : boxable (rh x) = true) (hcl : clL (rh x).cells = true) (hn : sfind s n = none) (hK : K (.ref (.g n) 0) L (s ++ [(n, .cells (rh x).cells)])) : EJ P G o rh L s K := by
  intro M F U w a hS hG hx
  have h1 := hx x (by simp [ho, Op.operands])
  have h2 := h1.cells (fun vs e => by rw [e] at hb; simp [boxable] at hb) (fun e => by rw [e] at hb; simp [boxable] at hb)
  have hE := eff_alloc (v := .ref (.g n) 0) (val := .pointer (some ⟨w.heap.size, 0, none⟩)) (ab := .cells (rh x).cells) hS (.cells (a.eval x).cells t) hn (fun w' M' hle hx hnew => rb_cells hS h2.1 hcl h2.2 hle hx hnew) (fun w' M' _ hm _ => .ref _ _ _ hm)
  refine wp_value (val := .pointer (some ⟨w.heap.size, 0, none⟩)) (w' := w.alloc (.cells (a.eval x).cells t)) ?_ ⟨_, L, _, _, _, F, U, hK, rfl, hE⟩
  simp only [execOp, ho, Instr.box, Sem.run_bind, run_newVar', Result.andThen_ok, Sem.run_pure]

theorem clL_dat : ∀ (xs : List DV), clL (xs.map .d) = true
  | [] => rfl
  | x :: r => by simp [clL, AV.cl, clL_dat r]
theorem ej_alloc {t : TypeId} {ti : TI} (hT : TabOK P T) (ht : T t = some ti) {n : Nat} {K : AV → List AB → List (Nat × AB) → Prop} (ho : o.op = .alloc t) (hn : sfind s n = none) (hK : K (.ref (.g n) 0) L (s ++ [(n, .cells (ti.zero.map .d))])) : EJ P G o rh L s K := by
  intro M F U w a hS hG hx
  obtain ⟨z, hz, hsz, hc⟩ := hT.zero ht
  have hE := eff_alloc (v := .ref (.g n) 0) (val := .pointer (some ⟨w.heap.size, 0, none⟩)) (ab := .cells (ti.zero.map .d)) hS (.cells z.cells t) hn (fun w' M' hle hx hnew => rb_cells hS (by simp [hsz]) (clL_dat _) (fun j y u hy hu => by
    rw [List.getElem?_map] at hy
    obtain ⟨y', hy', rfl⟩ := Option.map_eq_some_iff.1 hy
    exact hc M F w j y' u hy' hu) hle hx hnew) (fun w' M' _ hm _ => .ref _ _ _ hm)
  refine wp_value (val := .pointer (some ⟨w.heap.size, 0, none⟩)) (w' := w.alloc (.cells z.cells t)) ?_ ⟨_, L, _, _, _, F, U, hK, rfl, hE⟩
  simp only [execOp, ho, Instr.alloc, Sem.run_bind, hz, run_newVar', Result.andThen_ok, Sem.run_pure]
theorem ej_makeMap {t : TypeId} {n : Nat} {K : AV → List AB → List (Nat × AB) → Prop} (ho : o.op = .makeMap t none) (hn : sfind s n = none) (hK : K (.mp (.g n)) L (s ++ [(n, .dmap [])])) : EJ P G o rh L s K := by
  intro M F U w a hS hG hx
  have hE := eff_alloc (v := .mp (.g n)) (val := .map (some w.heap.size)) (ab := .dmap []) hS (.map #[] 0) hn (fun w' M' hle hx hnew => ⟨#[], 0, hnew, rfl, fun i e x he hx => by simp at hx, fun i e he => by simp at he, fun i j e e' he => by simp at he⟩) (fun w' M' _ hm _ => .mp _ _ hm)
  refine wp_value (val := .map (some w.heap.size)) (w' := w.alloc (.map #[] 0)) ?_ ⟨_, L, _, _, _, F, U, hK, rfl, hE⟩
  simp only [execOp, ho]
  rfl

/-- An object put anew, in a world that is as it was but for it. -/
theorem eff_obj {L' : List AB} {s' : List (Nat × AB)} {r : Rf} {ab0 ab1 : AB} {b : Nat} {w' : World} {old new : Obj} (hS : St M F U L s w) (hp : Put ab0 ab1 L s r L' s') (hd : ab0 ≠ .dead) (hm : M.at_ r = some b)
    (hX : ∀ U : Nat → Prop, ¬ U b → Ext U w w') (hother : ∀ x, x ≠ b → w'.heap[x]? = w.heap[x]?) (hsize : w'.heap.size = w.heap.size) (_ : old = old) (hself : w'.heap[b]? = some new) (hrb : Ext U w w' → w'.heap[b]? = some new → RB (M.sub r) F w' b ab1) :
    Eff M F U s w L' s' .undef Go.undef M F U w' := by
  obtain ⟨hsp, hids, hlen⟩ := hp.spec hS.nd
  have hnU := hS.nU r ab0 b hp.here hd hm
  have hX := hX U hnU
  have hidm : ∀ id ab, (id, ab) ∈ s' → ∃ ab0, (id, ab0) ∈ s := fun id ab h => by
    have : id ∈ s'.map (·.1) := List.mem_map.2 ⟨_, h, rfl⟩
    rw [hids] at this
    obtain ⟨⟨i, a⟩, h1, h2⟩ := List.mem_map.1 this
    simp only at h2
    subst h2
    exact ⟨a, h1⟩
  refine ⟨.refl M, fun _ h => h, fun _ h => h, hX, ?_, .undef _, fun _ h => .inl h, fun k b h => .inr ⟨k, h⟩, fun id ab b' h hd' hb' => ?_, fun id ab h => .inl (hidm id ab h)⟩
  · refine ⟨fun r' ab b' hr hm' => ?_, fun r1 r2 a1 a2 b' h1 h2 d1 d2 m1 m2 => ?_, fun r' ab b' hr hd' hm' => ?_, by rw [hids]; exact hS.nd, hS.FU, fun x hx => by rw [hsize]; exact hS.Ult x hx, fun k hk => hS.dom k (by omega), fun id ab h => ?_, fun id h => hS.gdom id fun ab hab => ?_⟩
    · rcases hsp r' ab hr with ⟨rfl, rfl⟩ | ⟨hne, h⟩
      · rw [hm] at hm'
        cases hm'
        exact hrb hX hself
      · refine (hS.rb r' ab b' h hm').mono (.refl _) (fun _ h => h) hS.FU hX (fun hd' => hother b' (fun e => ?_))
        subst e
        exact hne (hS.inj r' r ab ab0 b' h hp.here hd' hd hm' hm)
    · have one : ∀ r' ab, Here L' s' r' ab → ab ≠ .dead → ∃ ab', Here L s r' ab' ∧ ab' ≠ .dead := fun r' ab hr hd' => by
        rcases hsp r' ab hr with ⟨rfl, rfl⟩ | ⟨_, h⟩
        · exact ⟨ab0, hp.here, hd⟩
        · exact ⟨ab, h, hd'⟩
      obtain ⟨x1, q1, e1⟩ := one r1 a1 h1 d1
      obtain ⟨x2, q2, e2⟩ := one r2 a2 h2 d2
      exact hS.inj r1 r2 x1 x2 b' q1 q2 e1 e2 m1 m2
    · rcases hsp r' ab hr with ⟨rfl, rfl⟩ | ⟨_, h⟩
      · exact hS.nU r' ab0 b' hp.here hd hm'
      · exact hS.nU r' ab b' h hd' hm'
    · obtain ⟨ab0', h'⟩ := hidm id ab h
      exact hS.tot id ab0' h'
    · have : id ∈ s.map (·.1) := List.mem_map.2 ⟨_, hab, rfl⟩
      rw [← hids] at this
      obtain ⟨⟨i, a⟩, h1, h2⟩ := List.mem_map.1 this
      simp only at h2
      subst h2
      exact h a h1
  · right; left
    rcases hsp (.g id) ab h with ⟨e, rfl⟩ | ⟨_, h'⟩
    · subst e
      exact ⟨id, ab0, hp.here, hd, hb'⟩
    · exact ⟨id, ab, h', hd', hb'⟩

def setMap (w : World) (b : Nat) (ents : Array MapEntry) (clock : Nat) : World := { w with heap := w.heap.setIfInBounds b (.map ents clock) }
theorem run_setMap {b : Nat} {ents ents' : Array MapEntry} {clock clock' : Nat} (h : w.heap[b]? = some (.map ents clock)) : (setObj b (.map ents' clock')).run P w = .ok () (setMap w b ents' clock') := by
  simp [setObj, Sem.run, h, setMap]
theorem setMap_self {b : Nat} {ents ents' : Array MapEntry} {clock clock' : Nat} (h : w.heap[b]? = some (.map ents clock)) : (setMap w b ents' clock').heap[b]? = some (.map ents' clock') := by
  have hlt : b < w.heap.size := (Array.getElem?_eq_some_iff.1 h).1
  simp [setMap, hlt]
theorem setMap_other {b x : Nat} {ents' : Array MapEntry} {clock' : Nat} (h : x ≠ b) : (setMap w b ents' clock').heap[x]? = w.heap[x]? := by
  simp [setMap, Ne.symm h]
theorem setMap_ext {b : Nat} {ents ents' : Array MapEntry} {clock clock' : Nat} (h : w.heap[b]? = some (.map ents clock)) (U : Nat → Prop) (hU : ¬ U b) : Ext U w (setMap w b ents' clock') := by
  refine ⟨rfl, rfl, rfl, by simp [setMap], fun x hx => setMap_other (fun e => hU (e ▸ hx)), fun x _ => ?_⟩
  unfold World.shape?
  by_cases e : x = b
  · subst e
    rw [setMap_self h, h]
  · rw [setMap_other e]

/-- What is laid into a map. -/
def dput (es : List (DX × DX)) (k v : DX) (es' : List (DX × DX)) : Prop := ((∀ e ∈ es, e.1 ≠ k) ∧ es' = es ++ [(k, v)]) ∨ ∃ j, (∃ x, es[j]? = some x ∧ x.1 = k) ∧ (∀ i x, es[i]? = some x → x.1 = k → i = j) ∧ es' = es.set j (k, v)
/-- What is left of a map. -/
def ddel (es : List (DX × DX)) (k : DX) (es' : List (DX × DX)) : Prop := ((∀ e ∈ es, e.1 ≠ k) ∧ es' = es) ∨ ∃ j, (∃ x, es[j]? = some x ∧ x.1 = k) ∧ (∀ i x, es[i]? = some x → x.1 = k → i = j) ∧ es' = es.eraseIdx j

theorem av_of_val {F : Nat → Prop} {c : Bool × List IntKind} {k : DX} (hg : kgood c k = true) : RV M F w k.av (kval k) := by
  obtain ⟨ag, ks⟩ := c
  have cell : ∀ {x : DV}, (∃ k n, x = .int k n) → RV M F w (.d x) (cellv x) ∧ (cellv x).oneCell' = true := by
    rintro x ⟨k, n, rfl⟩
    exact ⟨.d (.int k n), rfl⟩
  cases k with
  | one x =>
    simp only [kgood, Bool.and_eq_true] at hg
    have hl := kmatch_len hg.2
    match ks, hl, hg.2 with
    | [k], _, hm =>
      obtain ⟨n, hn⟩ := kmatch_at hm (j := 0) rfl
      simp at hn
      exact (cell ⟨k, n, hn⟩).1
  | agg xs =>
    simp only [kgood, Bool.and_eq_true] at hg
    have hk := kmatch_len hg.2
    have hat : ∀ (j : Nat) (x : DV), xs[j]? = some x → ∃ k n, x = .int k n := fun j x hx => by
      have hj := (List.getElem?_eq_some_iff.1 hx).1
      obtain ⟨n, hn⟩ := kmatch_at hg.2 (j := j) (k := ks[j]'(by omega)) (List.getElem?_eq_getElem (by omega))
      rw [hx] at hn
      cases hn
      exact ⟨_, n, rfl⟩
    simp only [DX.av, kval]
    refine .agg _ _ (by simp) (fun j v hv => ?_) (fun j x v hx hv => ?_)
    · rw [List.getElem?_map] at hv
      obtain ⟨y, hy, rfl⟩ := Option.map_eq_some_iff.1 hv
      exact (cell (hat j y hy)).2
    · rw [List.getElem?_map] at hx hv
      obtain ⟨y, hy, rfl⟩ := Option.map_eq_some_iff.1 hx
      rw [hy] at hv
      cases hv
      exact (cell (hat j y hy)).1

theorem ej_mapUpdate {t kt et : TypeId} {ti : TI} (hT : TabOK P T) (ht : T t = some ti) (hu : ti.u = .map kt et) {nb : Bool} {c : Bool × List IntKind} (hk : keyK T kt = some (nb, c)) (hs : keyH P T kt nb) {x k y : Operand} (ho : o.op = .mapUpdate t x k y)
    {id : Nat} (hx1 : rh x = .mp (.g id)) {es es' : List (DX × DX)} (hm : sfind s id = some (.dmap es)) {kx vx : DX} (hkx : rh k = kx.av) (hvx : rh y = vx.av) (hg : kgood c kx = true) (hall : ∀ e ∈ es, kgood c e.1 = true) (hr : dput es kx vx es')
    {K : AV → List AB → List (Nat × AB) → Prop} (hK : K .undef L (sput s id (.dmap es'))) : EJ P G o rh L s K := by
  intro M F U w a hS hG hx
  have h1 := hx x (by simp [ho, Op.operands])
  have h2 := hx k (by simp [ho, Op.operands])
  have h3 := hx y (by simp [ho, Op.operands])
  rw [hx1] at h1
  rw [hkx] at h2
  rw [hvx] at h3
  have hkv := kgood_val hg h2
  generalize he : a.eval x = u at h1
  cases h1 with
  | mp _ b hb =>
    obtain ⟨ents, clock, q1, q2, q3, q4, q5, q6⟩ := dmap_find hT hS (sfind_mem hm) hb hk hs hg hall
    have hun := run_underlying' ((hT t ti ht).1) w
    rw [hu] at hun
    -- the new entries
    have fin : ∀ (ents' : Array MapEntry) (clock' : Nat), (Instr.mapUpdate t (.map (some b)) (kval kx) (a.eval y)).run P w = .ok () (setMap w b ents' clock') → ents'.size = es'.length →
        (∀ (i : Nat) (e : MapEntry) (x : DX × DX), ents'[i]? = some e → es'[i]? = some x → RV M F w x.1.av e.key ∧ RV M F w x.2.av e.val) →
        (∀ (i : Nat) (e : MapEntry), ents'[i]? = some e → e.born < clock') → (∀ (i j : Nat) (e e' : MapEntry), ents'[i]? = some e → ents'[j]? = some e' → e.born = e'.born → i = j) →
        o.wp P a w (fun a' w' => ∃ v L' s' val M' F' U', K v L' s' ∧ a' = a.put o.dst val ∧ Eff M F U s w L' s' v val M' F' U' w') (fun _ _ _ => False) := by
      intro ents' clock' hrun r1 r2 r3 r4
      have hE := eff_obj (w' := setMap w b ents' clock') (old := .map ents clock) (new := .map ents' clock') hS (Put.gput (L := L) (.dmap es') hm) (by simp) hb (setMap_ext q1) (fun x hx => setMap_other hx) (by simp [setMap]) rfl (setMap_self q1) (fun hX hh =>
        ⟨ents', clock', hh, r1, fun i e x he hx => ⟨DX.rv ((r2 i e x he hx).1.mono (.refl M) (fun _ h => h) hS.FU hX), DX.rv ((r2 i e x he hx).2.mono (.refl M) (fun _ h => h) hS.FU hX)⟩, r3, r4⟩)
      refine wp_skip' (w' := setMap w b ents' clock') ?_ ⟨.undef, L, _, Go.undef, M, F, U, hK, rfl, hE⟩
      simp only [execOp, ho, he, hkv, Sem.run_bind, hrun, Result.andThen_ok, Sem.run_pure]
    have hkav : RV M F w kx.av (kval kx) := av_of_val hg
    have hold : ∀ (i : Nat) (e : MapEntry) (x : DX × DX), ents[i]? = some e → es[i]? = some x → RV M F w x.1.av e.key ∧ RV M F w x.2.av e.val := fun i e x he hx => by
      obtain ⟨k1, k2⟩ := q3 i e x he hx
      exact ⟨by rw [k1]; exact av_of_val (hall x (List.mem_of_getElem? hx)), k2⟩
    rcases q6 with ⟨f1, f2⟩ | ⟨j, e, z, f1, f2, f3, f4⟩
    · have hes : es' = es ++ [(kx, vx)] := by
        rcases hr with ⟨_, h⟩ | ⟨j, ⟨x, h1, h2⟩, _⟩
        · exact h
        · exact absurd h2 (f2 x (List.mem_of_getElem? h1))
      subst hes
      refine fin (ents.push { key := kval kx, val := a.eval y, born := clock }) (clock + 1) ?_ (by simp [q2]) ?_ ?_ ?_
      · unfold Instr.mapUpdate
        simp only [Sem.run_bind, hun, Result.andThen_ok, run_getMap q1, key_check hT hk hg, f1, run_setMap q1]
      · intro i e x he hx
        rw [Array.getElem?_push] at he
        by_cases hi : i = ents.size
        · rw [if_pos hi] at he
          cases he
          rw [List.getElem?_append_right (by omega), show i - es.length = 0 by omega] at hx
          simp at hx
          subst hx
          exact ⟨hkav, h3⟩
        · rw [if_neg hi] at he
          have hlt := (Array.getElem?_eq_some_iff.1 he).1
          rw [List.getElem?_append_left (by omega)] at hx
          exact hold i e x he hx
      · intro i e he
        rw [Array.getElem?_push] at he
        by_cases hi : i = ents.size
        · rw [if_pos hi] at he
          cases he
          simp
        · rw [if_neg hi] at he
          have := q4 i e he
          omega
      · intro i j e e' he he' hbn
        rw [Array.getElem?_push] at he he'
        by_cases hi : i = ents.size <;> by_cases hj : j = ents.size
        · omega
        · rw [if_pos hi] at he
          rw [if_neg hj] at he'
          cases he
          have := q4 j e' he'
          simp only at hbn
          omega
        · rw [if_neg hi] at he
          rw [if_pos hj] at he'
          cases he'
          have := q4 i e he
          simp only at hbn
          omega
        · rw [if_neg hi] at he
          rw [if_neg hj] at he'
          exact q5 i j e e' he he' hbn
    · have hes : es' = es.set j (kx, vx) := by
        rcases hr with ⟨h, _⟩ | ⟨j', _, h, h'⟩
        · exact absurd f4 (h z (List.mem_of_getElem? f3))
        · rw [h j z f3 f4]; exact h'
      subst hes
      have hstay : (Instr.keyThatStays (((ents[j]?).map (·.key)).getD (kval kx)) (kval kx)).run P w = .ok (kval kx) w := by
        have hek : e.key = kval kx := by rw [(q3 j e z f2 f3).1, f4]
        rw [f2]
        unfold Instr.keyThatStays
        simp only [Option.map_some, Option.getD_some, hek, kval_bits hg, if_true]
        rfl
      have hmod : ∀ i : Nat, (ents.modify j fun e => { e with key := kval kx, val := a.eval y })[i]? = if j = i then (ents[i]?).map (fun e => { e with key := kval kx, val := a.eval y }) else ents[i]? := fun i => by
        rw [Array.getElem?_modify]
      refine fin (ents.modify j fun e => { e with key := kval kx, val := a.eval y }) clock ?_ (by simp [q2]) ?_ ?_ ?_
      · unfold Instr.mapUpdate
        simp only [Sem.run_bind, hun, Result.andThen_ok, run_getMap q1, key_check hT hk hg, f1, hstay, run_setMap q1]
      · intro i e' x' he' hx'
        rw [hmod] at he'
        by_cases hi : j = i
        · subst hi
          rw [if_pos rfl, f2] at he'
          cases he'
          rw [List.getElem?_set_self (by have := (List.getElem?_eq_some_iff.1 f3).1; exact this)] at hx'
          cases hx'
          exact ⟨hkav, h3⟩
        · rw [if_neg hi] at he'
          rw [List.getElem?_set_ne hi] at hx'
          exact hold i e' x' he' hx'
      · intro i e' he'
        rw [hmod] at he'
        by_cases hi : j = i
        · subst hi
          rw [if_pos rfl, f2] at he'
          cases he'
          exact q4 j e f2
        · rw [if_neg hi] at he'
          exact q4 i e' he'
      · have born : ∀ (i : Nat) (e' : MapEntry), (ents.modify j fun e => { e with key := kval kx, val := a.eval y })[i]? = some e' → ∃ e0, ents[i]? = some e0 ∧ e0.born = e'.born := fun i e' he' => by
          rw [hmod] at he'
          by_cases hi : j = i
          · subst hi
            rw [if_pos rfl, f2] at he'
            cases he'
            exact ⟨e, f2, rfl⟩
          · rw [if_neg hi] at he'
            exact ⟨e', he', rfl⟩
        intro i i' e1 e2 h1 h2 hbn
        obtain ⟨e10, k1, k2⟩ := born i e1 h1
        obtain ⟨e20, p1, p2⟩ := born i' e2 h2
        exact q5 i i' e10 e20 k1 p1 (by rw [k2, p2]; exact hbn)

theorem ej_delete {t kt et t2 : TypeId} {ti : TI} (hT : TabOK P T) (ht : T t = some ti) (hu : ti.u = .map kt et) {nb : Bool} {c : Bool × List IntKind} (hk : keyK T kt = some (nb, c)) (hs : keyH P T kt nb) {x k : Operand} (ho : o.op = .call { callee := .builtin .delete, args := #[x, k], argTypes := #[t, t2] })
    {id : Nat} (hx1 : rh x = .mp (.g id)) {es es' : List (DX × DX)} (hm : sfind s id = some (.dmap es)) {kx : DX} (hkx : rh k = kx.av) (hg : kgood c kx = true) (hall : ∀ e ∈ es, kgood c e.1 = true) (hr : ddel es kx es')
    {K : AV → List AB → List (Nat × AB) → Prop} (hK : K (.tup []) L (sput s id (.dmap es'))) : EJ P G o rh L s K := by
  intro M F U w a hS hG hx
  have h1 := hx x (by simp [ho, Op.operands, Call.operands])
  have h2 := hx k (by simp [ho, Op.operands, Call.operands])
  rw [hx1] at h1
  rw [hkx] at h2
  have hkv := kgood_val hg h2
  generalize he : a.eval x = u at h1
  cases h1 with
  | mp _ b hb =>
    obtain ⟨ents, clock, q1, q2, q3, q4, q5, q6⟩ := dmap_find hT hS (sfind_mem hm) hb hk hs hg hall
    have hun := run_underlying' ((hT t ti ht).1) w
    rw [hu] at hun
    have fin : ∀ (ents' : Array MapEntry), (Builtin.delete_ #[t, t2] 0 #[.map (some b), kval kx]).run P w = .ok (.tuple #[]) (setMap w b ents' clock) → ents'.size = es'.length →
        (∀ (i : Nat) (e : MapEntry) (x : DX × DX), ents'[i]? = some e → es'[i]? = some x → RV M F w x.1.av e.key ∧ RV M F w x.2.av e.val) →
        (∀ (i : Nat) (e : MapEntry), ents'[i]? = some e → e.born < clock) → (∀ (i j : Nat) (e e' : MapEntry), ents'[i]? = some e → ents'[j]? = some e' → e.born = e'.born → i = j) →
        o.wp P a w (fun a' w' => ∃ v L' s' val M' F' U', K v L' s' ∧ a' = a.put o.dst val ∧ Eff M F U s w L' s' v val M' F' U' w') (fun _ _ _ => False) := by
      intro ents' hrun r1 r2 r3 r4
      have hE := eff_obj (w' := setMap w b ents' clock) (old := .map ents clock) (new := .map ents' clock) hS (Put.gput (L := L) (.dmap es') hm) (by simp) hb (setMap_ext q1) (fun x hx => setMap_other hx) (by simp [setMap]) rfl (setMap_self q1) (fun hX hh =>
        ⟨ents', clock, hh, r1, fun i e x he hx => ⟨DX.rv ((r2 i e x he hx).1.mono (.refl M) (fun _ h => h) hS.FU hX), DX.rv ((r2 i e x he hx).2.mono (.refl M) (fun _ h => h) hS.FU hX)⟩, r3, r4⟩)
      have hrv : RV M F (setMap w b ents' clock) (.tup []) (.tuple #[]) := .tup [] [] rfl (fun j x v hx => by simp at hx)
      refine wp_value (val := .tuple #[]) (w' := setMap w b ents' clock) ?_ ⟨.tup [], L, _, .tuple #[], M, F, U, hK, rfl, hE.le, hE.FF, hE.UU, hE.ext, hE.st, hrv, hE.Fn, hE.ll, hE.lg, hE.ids⟩
      simp only [execOp, ho, resolve, invoke, builtin, Sem.run_bind, Sem.run_pure, Result.andThen_ok, List.map_toArray, List.map_cons, List.map_nil, he, hkv]
      have hrun' : (Builtin.delete_ #[t, t2] o.type #[.map (some b), kval kx]).run P w = .ok (.tuple #[]) (setMap w b ents' clock) := hrun
      rw [hrun']
      rfl
    have hold : ∀ (i : Nat) (e : MapEntry) (x : DX × DX), ents[i]? = some e → es[i]? = some x → RV M F w x.1.av e.key ∧ RV M F w x.2.av e.val := fun i e x he hx => by
      obtain ⟨k1, k2⟩ := q3 i e x he hx
      exact ⟨by rw [k1]; exact av_of_val (hall x (List.mem_of_getElem? hx)), k2⟩
    have hdel : ∀ (fr : Option (Nat × Value)) (ents' : Array MapEntry), (Instr.findKey kt (kval kx) ents.toList).run P w = .ok fr w → (match fr with
        | some (i, _) => ents' = ents.eraseIdxIfInBounds i
        | none => ents' = ents) → (Builtin.delete_ #[t, t2] 0 #[.map (some b), kval kx]).run P w = .ok (.tuple #[]) (setMap w b ents' clock) := by
      intro fr ents' hf hv
      unfold Builtin.delete_
      cases fr with
      | none =>
        subst hv
        simp [Sem.run_bind, hun, run_getMap q1, key_check hT hk hg, hf, run_setMap q1]
      | some jv =>
        obtain ⟨j, v'⟩ := jv
        subst hv
        simp [Sem.run_bind, hun, run_getMap q1, key_check hT hk hg, hf, run_setMap q1]
    rcases q6 with ⟨f1, f2⟩ | ⟨j, e, z, f1, f2, f3, f4⟩
    · have hes : es' = es := by
        rcases hr with ⟨_, h⟩ | ⟨j, ⟨x, h1, h2⟩, _⟩
        · exact h
        · exact absurd h2 (f2 x (List.mem_of_getElem? h1))
      subst hes
      exact fin ents (hdel none ents f1 rfl) q2 hold q4 q5
    · have hes : es' = es.eraseIdx j := by
        rcases hr with ⟨h, _⟩ | ⟨j', _, h, h'⟩
        · exact absurd f4 (h z (List.mem_of_getElem? f3))
        · rw [h j z f3 f4]; exact h'
      subst hes
      have hlt := (Array.getElem?_eq_some_iff.1 f2).1
      have hget : ∀ i : Nat, (ents.eraseIdxIfInBounds j)[i]? = if i < j then ents[i]? else ents[i + 1]? := fun i => by
        unfold Array.eraseIdxIfInBounds
        rw [dif_pos hlt, Array.getElem?_eraseIdx]
      refine fin (ents.eraseIdxIfInBounds j) (hdel _ _ f1 rfl) ?_ ?_ ?_ ?_
      · unfold Array.eraseIdxIfInBounds
        rw [dif_pos hlt, Array.size_eraseIdx, List.length_eraseIdx, if_pos (by omega), q2]
      · intro i e' x' he' hx'
        rw [hget] at he'
        rw [List.getElem?_eraseIdx] at hx'
        by_cases hi : i < j
        · rw [if_pos hi] at he' hx'; exact hold i e' x' he' hx'
        · rw [if_neg hi] at he' hx'; exact hold (i + 1) e' x' he' hx'
      · intro i e' he'
        rw [hget] at he'
        by_cases hi : i < j
        · rw [if_pos hi] at he'; exact q4 i e' he'
        · rw [if_neg hi] at he'; exact q4 (i + 1) e' he'
      · intro i i' e1 e2 h1 h2 hbn
        rw [hget] at h1 h2
        by_cases hi : i < j <;> by_cases hi' : i' < j
        · rw [if_pos hi] at h1; rw [if_pos hi'] at h2; exact q5 i i' e1 e2 h1 h2 hbn
        · rw [if_pos hi] at h1; rw [if_neg hi'] at h2; have := q5 i (i' + 1) e1 e2 h1 h2 hbn; omega
        · rw [if_neg hi] at h1; rw [if_pos hi'] at h2; have := q5 (i + 1) i' e1 e2 h1 h2 hbn; omega
        · rw [if_neg hi] at h1; rw [if_neg hi'] at h2; have := q5 (i + 1) (i' + 1) e1 e2 h1 h2 hbn; omega

/-- A call of whatever kind. -/
theorem ej_call {c : Operand} {args : Array Operand} {tys : Array TypeId} {f : Nat} {caps : List AV} {ρ : List Nat} {s0 : List (Nat × AB)} {R : AV → List (Nat × AB) → Prop} {K : AV → List AB → List (Nat × AB) → Prop}
    (ho : o.op = .call { callee := .value c, args := args, argTypes := tys }) (hc : rh c = .fn f caps)
    {args1 args' : List AV} (hrn : rnL (toF ρ) (args.toList.map rh ++ caps) = some args1) (hw : WkL args1 args') (hnd : nodupB ρ = true) (hsel : selS ρ s ρ 0 = some s0) (hC : Contract P G f args' s0 R)
    (hK : ∀ res s1, R res s1 → ∃ τ s' res', nodupB (ρ ++ τ) = true ∧ allNew s τ = true ∧ covers s1 ρ.length = true ∧ putS (ρ ++ τ) s1 s = some s' ∧ res.rn (frF (ρ ++ τ)) = some res' ∧ K res' L s') : EJ P G o rh L s K := by
  intro M F U w a hS hG hx
  obtain ⟨vals, hrun, hl, hv⟩ := run_call ho hc hC.1 hx
  have hvia : Mp.Via (toF ρ) M ⟨fun _ => none, fun (i : Nat) => (ρ[i]?).bind M.g⟩ := fun r r' b hr hm => by
    cases r with
    | l k => cases hr
    | g id =>
      simp only [toF] at hr
      split at hr <;> cases hr
      rename_i i hi
      obtain ⟨i', h1, h2⟩ := rnK_some hi
      simp only [Nat.zero_add] at h1
      subst h1
      simp only [Mp.at_] at hm ⊢
      rw [h2]
      exact hm
  obtain ⟨k1, k2⟩ := rnL_get hrn
  have hcall := call_core hC hS hG hsel hnd (by rw [hl, ← k1, hw.len]) (fun j x v hx hv' => hw.rv (l := args1) (fun j x v hx hv2 => by
    obtain ⟨y, hy, hy'⟩ := k2 j x hx
    exact (hv j y v hy hv2).rn hvia hy') j x v hx hv')
  unfold Oper.wp
  rw [hrun]
  simp only [Oper.upon]
  refine hcall.mono ?_
  rintro e w' ⟨val, res, s1, rfl, hR, hk⟩
  obtain ⟨τ, s', res', h1, h2, h3, h4, h5, h6⟩ := hK res s1 hR
  obtain ⟨M', F', U', hE⟩ := hk τ s' res' h1 h2 h3 h4 h5
  have hXU : Ext U w w' := hE.ext.mono (fun b hb => ⟨hS.Ult b hb, fun h => by
    obtain ⟨id, ab, h1, h2, h3⟩ := hE.live b h
    exact hS.nU (.g id) ab b h1 h2 h3 hb⟩)
  refine ⟨res', L, s', val, M', F', U', h6, rfl, hE.le, hE.FF, hE.UU, hXU, hE.st, hE.rv, fun b hb => ?_, fun k b h => .inr ⟨k, by rw [← hE.l]; exact h⟩, fun id ab b h hd hb => ?_, hE.ids⟩
  · rcases hE.Fn b hb with h | h | h
    · exact .inl h
    · exact .inr (.inl h)
    · exact .inr (.inr (.inl (hE.live b h)))
  · rcases hE.lg id ab b h hd hb with h | h
    · exact .inl h
    · exact .inr (.inl h)

end
end Go.Pv
