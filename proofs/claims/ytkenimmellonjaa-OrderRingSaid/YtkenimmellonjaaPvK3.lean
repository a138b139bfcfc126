/- Keys of maps: integers, structs of integers. -/
import Derived.Test.YtkenimmellonjaaPvK2
import Derived.Laws.StructEq
namespace Go.Pv
open Go.RowKit

def flatF (T : Nat → Option TI) : List Field → Nat → Option (List IntKind)
  | [], _ => some []
  | f :: r, off => match Nat.beq f.offset off && !(f.name == "_") with
    | true => match T f.type with
      | some tf => match tf.u with
        | .int k => match flatF T r (off + 1) with
          | some ks => some (k :: ks)
          | none => none
        | _ => none
      | none => none
    | false => none
/-- A key's type: is it a struct, its integers' kinds. -/
def flatK (T : Nat → Option TI) (t : Nat) : Option (Bool × List IntKind) := match T t with
  | some ti => match ti.u with
    | .int k => some (false, [k])
    | .struct fs => match flatF T fs.toList 0 with
      | some ks => some (true, ks)
      | none => none
    | _ => none
  | none => none
def kmatch : List DV → List IntKind → Bool
  | [], [] => true
  | .int k _ :: r, k' :: r' => decide (k = k') && kmatch r r'
  | _, _ => false
def kgood (c : Bool × List IntKind) : DX → Bool
  | .one x => !c.1 && kmatch [x] c.2
  | .agg xs => c.1 && kmatch xs c.2
def cellv : DV → Value
  | .int k n => .int k n
  | _ => .nilIface
def kval : DX → Value
  | .one x => cellv x
  | .agg xs => .agg (xs.map cellv).toArray

section
variable {P : Program} {T : Nat → Option TI} {M : Mp} {F : Nat → Prop} {w : World}

theorem kmatch_len : ∀ {xs : List DV} {ks : List IntKind}, kmatch xs ks = true → xs.length = ks.length
  | [], [], _ => rfl
  | [], _ :: _, h => by simp [kmatch] at h
  | x :: r, [], h => by cases x <;> simp [kmatch] at h
  | x :: r, k' :: r', h => by
    cases x <;> simp [kmatch] at h
    simp [kmatch_len h.2]
theorem kmatch_at : ∀ {xs : List DV} {ks : List IntKind} {j : Nat} {k : IntKind}, kmatch xs ks = true → ks[j]? = some k → ∃ n, xs[j]? = some (.int k n)
  | [], [], j, k, _, hk => by simp at hk
  | [], _ :: _, _, _, h, _ => by simp [kmatch] at h
  | x :: r, [], _, _, h, _ => by cases x <;> simp [kmatch] at h
  | x :: r, k' :: r', j, k, h, hk => by
    cases x <;> simp [kmatch] at h
    rename_i k0 n
    obtain ⟨rfl, h⟩ := h
    cases j with
    | zero => simp at hk; subst hk; exact ⟨n, rfl⟩
    | succ j => simpa using kmatch_at h (by simpa using hk)
theorem kmatch_inj : ∀ {xs ys : List DV} {ks : List IntKind}, kmatch xs ks = true → kmatch ys ks = true → xs.map cellv = ys.map cellv → xs = ys
  | [], [], _, _, _, _ => rfl
  | [], _ :: _, _, _, _, h => by simp at h
  | _ :: _, [], _, _, _, h => by simp at h
  | x :: r, y :: r', [], h, _, _ => by cases x <;> simp [kmatch] at h
  | x :: r, y :: r', k :: ks, h1, h2, h => by
    cases x <;> simp [kmatch] at h1
    cases y <;> simp [kmatch] at h2
    simp [cellv] at h
    obtain ⟨⟨e1, e2⟩, h⟩ := h
    subst e1
    subst e2
    rw [kmatch_inj h1.2 h2.2 (by simpa using h)]
theorem kval_inj {c : Bool × List IntKind} {a b : DX} (ha : kgood c a = true) (hb : kgood c b = true) (h : kval a = kval b) : a = b := by
  obtain ⟨ag, ks⟩ := c
  cases a <;> cases b <;> simp only [kgood, Bool.and_eq_true, Bool.not_eq_true'] at ha hb
  · simp only [kval] at h
    have := kmatch_inj ha.2 hb.2 (by simp [h])
    simpa using this
  · rw [ha.1] at hb; cases hb.1
  · rw [ha.1] at hb; cases hb.1
  · simp only [kval, Value.agg.injEq] at h
    rw [kmatch_inj ha.2 hb.2 (by simpa using h)]
theorem kgood_val {c : Bool × List IntKind} {a : DX} {v : Value} (ha : kgood c a = true) (h : RV M F w a.av v) : v = kval a := by
  obtain ⟨ag, ks⟩ := c
  have cell : ∀ {x : DV} {k : IntKind} {n : Int} {v : Value}, x = .int k n → RV M F w (.d x) v → v = cellv x := fun e h => by subst e; rw [h.int_inv]; rfl
  cases a with
  | one x =>
    simp only [kgood, Bool.and_eq_true] at ha
    have hl := kmatch_len ha.2
    match ks, hl, ha.2 with
    | [k], _, hm =>
      obtain ⟨n, hn⟩ := kmatch_at hm (j := 0) rfl
      simp at hn
      exact cell hn h
  | agg xs =>
    simp only [kgood, Bool.and_eq_true] at ha
    simp only [DX.av] at h
    cases h with
    | agg cs vs hl h1 h =>
      simp only [kval, Value.agg.injEq]
      congr 1
      apply List.ext_getElem?
      intro j
      simp at hl
      cases hv : vs[j]? with
      | none =>
        rw [List.getElem?_map]
        have := List.getElem?_eq_none_iff.1 hv
        rw [List.getElem?_eq_none (by omega)]
        rfl
      | some v =>
        have hj := (List.getElem?_eq_some_iff.1 hv).1
        have hk := kmatch_len ha.2
        obtain ⟨n, hn⟩ := kmatch_at ha.2 (j := j) (k := ks[j]'(by omega)) (List.getElem?_eq_getElem (by omega))
        rw [List.getElem?_map, hn, Option.map_some, ← cell rfl (h j _ v (by rw [List.getElem?_map, hn]; rfl) hv)]

theorem flat_fields (hT : TabOK P T) {d : Nat} {xs ys : List DV} : ∀ {fs : List Field} {off : Nat} {ks : List IntKind}, flatF T fs off = some ks → kmatch (xs.drop off) ks = true → kmatch (ys.drop off) ks = true →
    ∃ r : Bool, (Op.eqFields (d + 1) (xs.map cellv).toArray (ys.map cellv).toArray fs).run P w = .ok r w ∧ (r = true ↔ xs.drop off = ys.drop off)
  | [], off, ks, h, h1, h2 => by
    simp only [flatF, Option.some.injEq] at h
    subst h
    have e1 := kmatch_len h1
    have e2 := kmatch_len h2
    refine ⟨true, rfl, ?_⟩
    have e3 : xs.drop off = [] := List.eq_nil_of_length_eq_zero e1
    have e4 : ys.drop off = [] := List.eq_nil_of_length_eq_zero e2
    rw [e3, e4]
    simp
  | f :: r, off, ks, h, h1, h2 => by
    simp only [flatF] at h
    split at h <;> try cases h
    rename_i hb
    simp only [Bool.and_eq_true, Bool.not_eq_true', beq_eq_false_iff_ne] at hb
    obtain ⟨hb1, hb2⟩ := hb
    have hb1 := Nat.eq_of_beq_eq_true hb1
    split at h <;> try cases h
    rename_i tf htf
    split at h <;> try cases h
    rename_i k hk
    split at h <;> cases h
    rename_i ks' hks
    obtain ⟨n, hn⟩ := kmatch_at h1 (j := 0) rfl
    obtain ⟨m, hm⟩ := kmatch_at h2 (j := 0) rfl
    rw [List.getElem?_drop, Nat.add_zero] at hn hm
    have hlx := (List.getElem?_eq_some_iff.1 hn).1
    have hly := (List.getElem?_eq_some_iff.1 hm).1
    have dx : xs.drop off = .int k n :: xs.drop (off + 1) := by
      rw [List.drop_eq_getElem_cons hlx]
      rw [List.getElem?_eq_getElem hlx] at hn
      rw [Option.some.inj hn]
    have dy : ys.drop off = .int k m :: ys.drop (off + 1) := by
      rw [List.drop_eq_getElem_cons hly]
      rw [List.getElem?_eq_getElem hly] at hm
      rw [Option.some.inj hm]
    rw [dx] at h1
    rw [dy] at h2
    simp only [kmatch, Bool.and_eq_true] at h1 h2
    obtain ⟨r1, hr1, hr2⟩ := flat_fields hT (d := d) (xs := xs) (ys := ys) hks h1.2 h2.2
    obtain ⟨hu, hag, _⟩ := hT f.type tf htf
    rw [hk] at hu hag
    have hagf : tf.agg = false := by
      cases ha : tf.agg with
      | false => rfl
      | true => simp [ha] at hag
    have part_ : ∀ (zs : List DV) (v : DV), zs[off]? = some v → (part f.type (zs.map cellv).toArray f.offset).run P w = .ok (cellv v) w := by
      intro zs v hz
      unfold part
      simp only [Sem.run_bind, run_isAgg' hT htf, Result.andThen_ok, hagf, Bool.false_eq_true, if_false, hb1, List.getElem?_toArray, List.getElem?_map, hz, Option.map_some]
      rfl
    refine ⟨n == m && r1, ?_, ?_⟩
    · simp only [Op.eqFields, if_pos hb2, Sem.run_bind, part_ xs _ hn, part_ ys _ hm, Result.andThen_ok, cellv, run_equalIn_int w d f.type k k n m hu]
      by_cases e : n = m
      · subst e
        simp [hr1]
      · have : (n == m) = false := by simpa using e
        simp [this, Sem.run_pure]
    · rw [dx, dy]
      simp only [Bool.and_eq_true, beq_iff_eq, List.cons.injEq, DV.int.injEq, true_and, hr2]

theorem flat_equal (hT : TabOK P T) {kt : Nat} {ks : List IntKind} (hk : flatK T kt = some (true, ks)) (hs : P.stoodInHeld kt = false) {xs ys : List DV} (h1 : kmatch xs ks = true) (h2 : kmatch ys ks = true) :
    ∃ r : Bool, (Op.equal kt (kval (.agg xs)) (kval (.agg ys))).run P w = .ok r w ∧ (r = true ↔ xs = ys) := by
  unfold flatK at hk
  split at hk <;> try cases hk
  rename_i ti ht
  split at hk <;> try cases hk
  rename_i fs hfs
  split at hk <;> cases hk
  rename_i hks
  have hu := (hT kt ti ht).1
  rw [hfs] at hu
  have hfo : P.underlying kt = some (.struct (P.fieldsOf kt)) := by
    unfold Program.fieldsOf
    rw [hu]
  have hff : P.fieldsOf kt = fs := by
    unfold Program.fieldsOf
    rw [hu]
  obtain ⟨r, hr1, hr2⟩ := flat_fields hT (w := w) (d := 9998) (xs := xs) (ys := ys) hks h1 h2
  refine ⟨r, ?_, by simpa using hr2⟩
  rw [show Op.equal kt (kval (.agg xs)) (kval (.agg ys)) = Op.equalIn (9999 + 1) kt (kval (.agg xs)) (kval (.agg ys)) from rfl]
  simp only [kval]
  rw [run_equalIn_struct w 9999 kt _ _ hfo hs, hff]
  exact hr1

theorem flat_inv (hT : TabOK P T) {kt : Nat} {c : Bool × List IntKind} (hk : flatK T kt = some c) : (∃ k, c = (false, [k]) ∧ P.underlying kt = some (.int k)) ∨ (∃ fs ks, c = (true, ks) ∧ P.underlying kt = some (.struct fs) ∧ flatF T fs.toList 0 = some ks) := by
  unfold flatK at hk
  split at hk <;> try cases hk
  rename_i ti ht
  have hu := (hT kt ti ht).1
  split at hk
  · rename_i k hti
    cases hk
    rw [hti] at hu
    exact .inl ⟨k, rfl, hu⟩
  · rename_i fs hti
    split at hk <;> cases hk
    rename_i ks hks
    rw [hti] at hu
    exact .inr ⟨fs, ks, rfl, hu, hks⟩
  · cases hk
theorem kgood_one {k : IntKind} {a : DX} (h : kgood (false, [k]) a = true) : ∃ n, a = .one (.int k n) := by
  cases a with
  | one x =>
    simp only [kgood, Bool.and_eq_true] at h
    obtain ⟨n, hn⟩ := kmatch_at h.2 (j := 0) rfl
    simp at hn
    exact ⟨n, by rw [hn]⟩
  | agg xs => simp [kgood] at h
theorem kgood_agg {ks : List IntKind} {a : DX} (h : kgood (true, ks) a = true) : ∃ xs, a = .agg xs ∧ kmatch xs ks = true := by
  cases a with
  | one x => simp [kgood] at h
  | agg xs =>
    simp only [kgood, Bool.and_eq_true] at h
    exact ⟨xs, rfl, h.2⟩

theorem flat_check (hT : TabOK P T) {kt : Nat} {c : Bool × List IntKind} (hk : flatK T kt = some c) {a : DX} (ha : kgood c a = true) (em : Bool) : (Instr.checkKey em 10000 kt (kval a)).run P w = .ok () w := by
  rw [show Instr.checkKey em 10000 kt (kval a) = Instr.checkKey em (9999 + 1) kt (kval a) from rfl]
  rcases flat_inv hT hk with ⟨k, rfl, hu⟩ | ⟨fs, ks, rfl, hu, hf⟩
  · obtain ⟨n, rfl⟩ := kgood_one ha
    generalize 9999 = d
    unfold Instr.checkKey
    simp only [Sem.run_bind, run_underlying' hu, Result.andThen_ok, kval, cellv]
    rfl
  · obtain ⟨xs, rfl, hm⟩ := kgood_agg ha
    have key : ∀ (d : Nat) (l : List Field) (off : Nat) (ks : List IntKind), flatF T l off = some ks → kmatch (xs.drop off) ks = true →
        (forIn l PUnit.unit (fun f _ => do
          if f.name ≠ "_" then do
            Instr.checkKey em (d + 1) f.type (← part f.type (xs.map cellv).toArray f.offset)
            pure (ForInStep.yield PUnit.unit)
          else pure (ForInStep.yield PUnit.unit)) : Sem PUnit).run P w = .ok PUnit.unit w := by
      intro d l
      induction l with
      | nil => intro off ks _ _; rfl
      | cons f r ih =>
        intro off ks h h1
        simp only [flatF] at h
        split at h <;> try cases h
        rename_i hb
        simp only [Bool.and_eq_true, Bool.not_eq_true', beq_eq_false_iff_ne] at hb
        obtain ⟨hb1, hb2⟩ := hb
        have hb1 := Nat.eq_of_beq_eq_true hb1
        split at h <;> try cases h
        rename_i tf htf
        split at h <;> try cases h
        rename_i k hk
        split at h <;> cases h
        rename_i ks' hks
        obtain ⟨n, hn⟩ := kmatch_at h1 (j := 0) rfl
        rw [List.getElem?_drop, Nat.add_zero] at hn
        have hlx := (List.getElem?_eq_some_iff.1 hn).1
        have dx : xs.drop off = .int k n :: xs.drop (off + 1) := by
          rw [List.drop_eq_getElem_cons hlx]
          rw [List.getElem?_eq_getElem hlx] at hn
          rw [Option.some.inj hn]
        rw [dx] at h1
        simp only [kmatch, Bool.and_eq_true] at h1
        obtain ⟨hu, hag, _⟩ := hT f.type tf htf
        rw [hk] at hu hag
        have hagf : tf.agg = false := by
          cases ha : tf.agg with
          | false => rfl
          | true => simp [ha] at hag
        have part_ : (part f.type (xs.map cellv).toArray f.offset).run P w = .ok (.int k n) w := by
          unfold part
          simp only [Sem.run_bind, run_isAgg' hT htf, Result.andThen_ok, hagf, Bool.false_eq_true, if_false, hb1, List.getElem?_toArray, List.getElem?_map, hn, Option.map_some]
          rfl
        have chk : (Instr.checkKey em (d + 1) f.type (.int k n)).run P w = .ok () w := by
          unfold Instr.checkKey
          simp only [Sem.run_bind, run_underlying' hu, Result.andThen_ok]
          rfl
        simp only [List.forIn_cons, Sem.run_bind, if_pos hb2, part_, chk, Result.andThen_ok, Sem.run_pure]
        exact ih (off + 1) ks' hks h1.2
    unfold Instr.checkKey
    simp only [Sem.run_bind, run_underlying' hu, Result.andThen_ok, kval]
    rw [← Array.forIn_toList]
    have := key 9998 fs.toList 0 ks hf (by simpa using hm)
    erw [this]
    rfl

theorem flat_find (hT : TabOK P T) {kt : Nat} {c : Bool × List IntKind} (hk : flatK T kt = some c) (hs : P.stoodInHeld kt = false) {a : DX} (ha : kgood c a = true) (es : List MapEntry) (ds : List DX) (hlen : es.length = ds.length)
    (hes : ∀ (i : Nat) (e : MapEntry) (d : DX), es[i]? = some e → ds[i]? = some d → e.key = kval d ∧ kgood c d = true) :
    ((Instr.findKey kt (kval a) es).run P w = .ok none w ∧ ∀ d ∈ ds, d ≠ a) ∨ ∃ (j : Nat) (e : MapEntry), (Instr.findKey kt (kval a) es).run P w = .ok (some (j, e.val)) w ∧ es[j]? = some e ∧ ds[j]? = some a := by
  rcases flat_inv hT hk with ⟨k, rfl, hu⟩ | ⟨fs, ks, rfl, hu, hf⟩
  · obtain ⟨n, rfl⟩ := kgood_one ha
    have key : ∀ (es : List MapEntry) (ds : List DX) (i0 : Nat), es.length = ds.length → (∀ (i : Nat) (e : MapEntry) (d : DX), es[i]? = some e → ds[i]? = some d → e.key = kval d ∧ kgood (false, [k]) d = true) →
        (Instr.findNow (.int k) (.int k n) es i0 = some none ∧ ∀ d ∈ ds, d ≠ .one (.int k n)) ∨ ∃ (j : Nat) (e : MapEntry), Instr.findNow (.int k) (.int k n) es i0 = some (some (i0 + j, e.val)) ∧ es[j]? = some e ∧ ds[j]? = some (.one (.int k n)) := by
      intro es
      induction es with
      | nil =>
        intro ds i0 hl _
        have : ds = [] := List.eq_nil_of_length_eq_zero hl.symm
        subst this
        exact .inl ⟨rfl, by simp⟩
      | cons e r ih =>
        intro ds i0 hl h
        match ds, hl with
        | d :: dr, hl =>
          obtain ⟨h1, h2⟩ := h 0 e d rfl rfl
          obtain ⟨m, rfl⟩ := kgood_one h2
          by_cases hnm : n = m
          · subst hnm
            refine .inr ⟨0, e, ?_, rfl, rfl⟩
            simp [Instr.findNow, h1, kval, cellv, Instr.sameNow]
          · have hbe : (n == m) = false := by simpa using hnm
            have step : Instr.findNow (.int k) (.int k n) (e :: r) i0 = Instr.findNow (.int k) (.int k n) r (i0 + 1) := by
              simp only [Instr.findNow, h1, kval, cellv, Instr.sameNow, if_true, hbe]
            rcases ih dr (i0 + 1) (by simpa using hl) (fun i e d he hd => h (i + 1) e d (by simpa using he) (by simpa using hd)) with ⟨q1, q2⟩ | ⟨j, e', q1, q2, q3⟩
            · refine .inl ⟨?_, fun d hd => ?_⟩
              · rw [step, q1]
              · rcases List.mem_cons.1 hd with rfl | hd
                · intro e; cases e; exact hnm rfl
                · exact q2 d hd
            · refine .inr ⟨j + 1, e', ?_, by simpa using q2, by simpa using q3⟩
              rw [step, q1, Nat.add_assoc, Nat.add_comm 1 j]
    unfold Instr.findKey
    simp only [Sem.run_bind, run_underlying' hu, Result.andThen_ok, kval, cellv]
    rcases key es ds 0 hlen hes with ⟨q1, q2⟩ | ⟨j, e, q1, q2, q3⟩
    · rw [q1]
      exact .inl ⟨rfl, q2⟩
    · rw [q1]
      exact .inr ⟨j, e, by simp [Sem.run_pure], q2, q3⟩
  · obtain ⟨xs, rfl, hm⟩ := kgood_agg ha
    have key : ∀ (es : List MapEntry) (ds : List DX) (i0 : Nat), es.length = ds.length → (∀ (i : Nat) (e : MapEntry) (d : DX), es[i]? = some e → ds[i]? = some d → e.key = kval d ∧ kgood (true, ks) d = true) →
        ((Instr.findAsking kt (kval (.agg xs)) es i0).run P w = .ok none w ∧ ∀ d ∈ ds, d ≠ .agg xs) ∨ ∃ (j : Nat) (e : MapEntry), (Instr.findAsking kt (kval (.agg xs)) es i0).run P w = .ok (some (i0 + j, e.val)) w ∧ es[j]? = some e ∧ ds[j]? = some (.agg xs) := by
      intro es
      induction es with
      | nil =>
        intro ds i0 hl _
        have : ds = [] := List.eq_nil_of_length_eq_zero hl.symm
        subst this
        exact .inl ⟨rfl, by simp⟩
      | cons e r ih =>
        intro ds i0 hl h
        match ds, hl with
        | d :: dr, hl =>
          obtain ⟨h1, h2⟩ := h 0 e d rfl rfl
          obtain ⟨ys, rfl, hy⟩ := kgood_agg h2
          obtain ⟨b, hb1, hb2⟩ := flat_equal hT (w := w) hk hs hm hy
          cases b with
          | true =>
            refine .inr ⟨0, e, ?_, rfl, by rw [hb2.1 rfl]; rfl⟩
            simp only [Instr.findAsking, Sem.run_bind, h1, hb1, Result.andThen_ok, if_true, Sem.run_pure, Nat.add_zero]
          | false =>
            have hne : xs ≠ ys := fun e => by have := hb2.2 e; cases this
            have step : (Instr.findAsking kt (kval (.agg xs)) (e :: r) i0).run P w = (Instr.findAsking kt (kval (.agg xs)) r (i0 + 1)).run P w := by
              simp only [Instr.findAsking, Sem.run_bind, h1, hb1, Result.andThen_ok, Bool.false_eq_true, if_false]
            rcases ih dr (i0 + 1) (by simpa using hl) (fun i e d he hd => h (i + 1) e d (by simpa using he) (by simpa using hd)) with ⟨q1, q2⟩ | ⟨j, e', q1, q2, q3⟩
            · refine .inl ⟨by rw [step, q1], fun d hd => ?_⟩
              rcases List.mem_cons.1 hd with rfl | hd
              · intro e; cases e; exact hne rfl
              · exact q2 d hd
            · refine .inr ⟨j + 1, e', ?_, by simpa using q2, by simpa using q3⟩
              rw [step, q1, Nat.add_assoc, Nat.add_comm 1 j]
    unfold Instr.findKey
    simp only [Sem.run_bind, run_underlying' hu, Result.andThen_ok]
    cases es with
    | nil =>
      have : ds = [] := List.eq_nil_of_length_eq_zero hlen.symm
      subst this
      exact .inl ⟨rfl, by simp⟩
    | cons e r =>
      have hnow : Instr.findNow (.struct fs) (kval (.agg xs)) (e :: r) 0 = none := by
        simp [Instr.findNow, Instr.sameNow]
      rw [hnow]
      rcases key (e :: r) ds 0 hlen hes with ⟨q1, q2⟩ | ⟨j, e', q1, q2, q3⟩
      · exact .inl ⟨q1, q2⟩
      · exact .inr ⟨j, e', by simpa using q1, q2, q3⟩

theorem kval_bits {c : Bool × List IntKind} {a : DX} (ha : kgood c a = true) : Instr.sameBits 10000 (kval a) (kval a) = true := by
  have cell : ∀ (d : Nat) (k : IntKind) (n : Int), Instr.sameBits d (.int k n) (.int k n) = true := fun d k n => by
    cases d <;> simp [Instr.sameBits]
  obtain ⟨ag, ks⟩ := c
  cases a with
  | one x =>
    simp only [kgood, Bool.and_eq_true] at ha
    have hl := kmatch_len ha.2
    match ks, hl, ha.2 with
    | [k], _, hm =>
      obtain ⟨n, hn⟩ := kmatch_at hm (j := 0) rfl
      simp at hn
      subst hn
      exact cell _ k n
  | agg xs =>
    simp only [kgood, Bool.and_eq_true] at ha
    rw [show Instr.sameBits 10000 (kval (.agg xs)) (kval (.agg xs)) = Instr.sameBits (9999 + 1) (kval (.agg xs)) (kval (.agg xs)) from rfl]
    generalize 9999 = d
    simp only [kval, Instr.sameBits, beq_self_eq_true, Bool.true_and, List.all_eq_true]
    rintro ⟨u, v⟩ huv
    obtain ⟨j, hj⟩ := List.mem_iff_getElem?.1 huv
    rw [List.getElem?_zip_eq_some] at hj
    obtain ⟨h1, h2⟩ := hj
    rw [h1] at h2
    cases h2
    simp only [List.getElem?_map] at h1
    obtain ⟨x, hx, rfl⟩ := Option.map_eq_some_iff.1 h1
    have hlt := (List.getElem?_eq_some_iff.1 hx).1
    have hl := kmatch_len ha.2
    obtain ⟨n, hn⟩ := kmatch_at ha.2 (j := j) (k := ks[j]'(by omega)) (List.getElem?_eq_getElem (by omega))
    rw [hx] at hn
    cases hn
    exact cell d _ n
end
end Go.Pv
