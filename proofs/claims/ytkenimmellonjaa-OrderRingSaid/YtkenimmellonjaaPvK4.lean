/- Maps whose keys and elements are data: what is looked up, how many there are. -/
import Derived.Test.YtkenimmellonjaaPvK3
import Derived.MapKept
namespace Go.Pv
open Go.RowKit

def dxOf : AV → Option DX
  | .d x => some (.one x)
  | .agg cs => match undD cs with
    | some xs => some (.agg xs)
    | none => none
  | _ => none
theorem dxOf_av {x : AV} {d : DX} (h : dxOf x = some d) : x = d.av := by
  unfold dxOf at h
  split at h
  · cases h; rfl
  · split at h <;> cases h
    rename_i xs hxs
    simp only [DX.av]
    rw [undD_map hxs]
  · cases h
/-- What is found. -/
def dget (es : List (DX × DX)) (k : DX) : Option DX → Prop
  | none => ∀ e ∈ es, e.1 ≠ k
  | some v => (∃ e ∈ es, e.1 = k) ∧ ∀ e ∈ es, e.1 = k → e.2 = v
def zv (ti : TI) : AV := match ti.agg with
  | true => .agg (ti.zero.map .d)
  | false => match ti.zero with
    | [x] => .d x
    | _ => .undef
def lres (ok : Bool) (te : TI) (r : Option DX) : AV := match ok with
  | true => match r with
    | some v => .tup [v.av, .d (.bool true)]
    | none => .tup [zv te, .d (.bool false)]
  | false => match r with
    | some v => v.av
    | none => zv te

section
variable {P : Program} {G : Gl} {T : Nat → Option TI} {o : Oper} {rh : Operand → AV} {L : List AB} {s : List (Nat × AB)}

theorem TabOK.zv (hT : TabOK P T) {t : TypeId} {ti : TI} (ht : T t = some ti) : ∃ z, (∀ w, (zeroValue t).run P w = .ok z w) ∧ ∀ (M : Mp) (F : Nat → Prop) (w : World), RV M F w (Pv.zv ti) z := by
  obtain ⟨h1, h2, i, z, zs, h3, h4, h5, h6, h7, h8, h9, h10, h11⟩ := hT t ti ht
  refine ⟨z, fun w => run_zeroValue' h3 h6 w, fun M F w => ?_⟩
  have hrd : ∀ (j : Nat) (y : DV) (u : Value), ti.zero[j]? = some y → zs[j]? = some u → RD F w y u := fun j y u hy hu => by
    have h12 : (ti.zero.map dconst)[j]? = (zs.map some)[j]? := by rw [h8]
    simp only [List.getElem?_map, hy, hu, Option.map_some] at h12
    injection h12 with h12
    exact dconst_RD h12
  have hl : ti.zero.length = zs.length := by
    have := congrArg List.length h8
    simpa using this
  unfold Pv.zv
  cases hag : ti.agg with
  | true =>
    rw [h10 hag]
    refine .agg _ zs (by simp [hl]) (fun j u hu => ?_) (fun j x u hx hu => ?_)
    · have hj := (List.getElem?_eq_some_iff.1 hu).1
      exact (hrd j _ u (List.getElem?_eq_getElem (by omega)) hu).oneCell
    · rw [List.getElem?_map] at hx
      obtain ⟨y, hy, rfl⟩ := Option.map_eq_some_iff.1 hx
      exact .d (hrd j y u hy hu)
  | false =>
    obtain ⟨h12, h13⟩ := h11 hag
    subst h12
    match hz : ti.zero, hl with
    | [x], _ => exact .d (hrd 0 x z (by rw [hz]; rfl) rfl)

/-- What a map's entries are, by the model. -/
theorem dmap_find (hT : TabOK P T) {M : Mp} {F U : Nat → Prop} {w : World} (hS : St M F U L s w) {id b : Nat} {es : List (DX × DX)} (hin : (id, AB.dmap es) ∈ s) (hm : M.g id = some b) {kt : Nat} {c : Bool × List IntKind} (hk : flatK T kt = some c) (hs : P.stoodInHeld kt = false)
    {kx : DX} (hg : kgood c kx = true) (hall : ∀ e ∈ es, kgood c e.1 = true) :
    ∃ (ents : Array MapEntry) (clock : Nat), w.heap[b]? = some (.map ents clock) ∧ ents.size = es.length ∧
      (∀ (i : Nat) (e : MapEntry) (x : DX × DX), ents[i]? = some e → es[i]? = some x → e.key = kval x.1 ∧ RV M F w x.2.av e.val) ∧
      (∀ (i : Nat) (e : MapEntry), ents[i]? = some e → e.born < clock) ∧ (∀ (i j : Nat) (e e' : MapEntry), ents[i]? = some e → ents[j]? = some e' → e.born = e'.born → i = j) ∧
      (((Instr.findKey kt (kval kx) ents.toList).run P w = .ok none w ∧ ∀ e ∈ es, e.1 ≠ kx) ∨ ∃ (j : Nat) (e : MapEntry) (x : DX × DX), (Instr.findKey kt (kval kx) ents.toList).run P w = .ok (some (j, e.val)) w ∧ ents[j]? = some e ∧ es[j]? = some x ∧ x.1 = kx) := by
  obtain ⟨ents, clock, h1, h2, h3, h4, h5⟩ := hS.rb (.g id) _ b hin hm
  have hkey : ∀ (i : Nat) (e : MapEntry) (x : DX × DX), ents[i]? = some e → es[i]? = some x → e.key = kval x.1 ∧ RV M F w x.2.av e.val := fun i e x he hx => by
    obtain ⟨q1, q2⟩ := h3 i e x he hx
    exact ⟨kgood_val (hall x (List.mem_of_getElem? hx)) q1, DX.rv q2⟩
  refine ⟨ents, clock, h1, h2, hkey, h4, h5, ?_⟩
  rcases flat_find hT (w := w) hk hs hg ents.toList (es.map (·.1)) (by simp [h2]) (fun i e d he hd => by
    rw [List.getElem?_map] at hd
    obtain ⟨x, hx, rfl⟩ := Option.map_eq_some_iff.1 hd
    exact ⟨(hkey i e x (by simpa using he) hx).1, hall x (List.mem_of_getElem? hx)⟩) with ⟨q1, q2⟩ | ⟨j, e, q1, q2, q3⟩
  · exact .inl ⟨q1, fun e he => q2 e.1 (List.mem_map.2 ⟨e, he, rfl⟩)⟩
  · rw [List.getElem?_map] at q3
    obtain ⟨x, hx, hx2⟩ := Option.map_eq_some_iff.1 q3
    exact .inr ⟨j, e, x, q1, by simpa using q2, hx, hx2⟩

theorem run_getMap {w : World} {b : Nat} {ents : Array MapEntry} {clock : Nat} (h : w.heap[b]? = some (.map ents clock)) : (getObj b).run P w = .ok (.map ents clock) w := by
  simp [getObj, Sem.run, h]
theorem lres_rv {M : Mp} {F : Nat → Prop} {w : World} {ok : Bool} {te : TI} {r : Option DX} {v : Value} (h : match r with
    | some x => RV M F w x.av v
    | none => RV M F w (zv te) v) : RV M F w (lres ok te r) (if ok = true then .tuple #[v, .bool r.isSome] else v) := by
  have two : ∀ {x : AV} {b : Bool}, RV M F w x v → RV M F w (.tup [x, .d (.bool b)]) (.tuple #[v, .bool b]) := fun {x b} h => by
    refine .tup _ [v, .bool b] rfl fun j y u hy hu => ?_
    match j, hy, hu with
    | 0, hy, hu => simp at hy hu; subst hy; subst hu; exact h
    | 1, hy, hu => simp at hy hu; subst hy; subst hu; exact .d (.bool b)
    | j + 2, hy, hu => simp at hy
  cases r with
  | none =>
    cases ok
    · simpa [lres] using h
    · simpa [lres] using two (b := false) h
  | some x =>
    cases ok
    · simpa [lres] using h
    · simpa [lres] using two (b := true) h

theorem pj_lookup (hT : TabOK P T) {t kt et : TypeId} {ti te : TI} (ht : T t = some ti) (hu : ti.u = .map kt et) {c : Bool × List IntKind} (hk : flatK T kt = some c) (hte : T et = some te) (hs : P.stoodInHeld kt = false) {x k : Operand} {ok : Bool} (ho : o.op = .lookup t x k ok)
    {id : Nat} (hx1 : rh x = .mp (.g id)) {es : List (DX × DX)} (hm : (id, AB.dmap es) ∈ s) {kx : DX} (hkx : rh k = kx.av) (hg : kgood c kx = true) (hall : ∀ e ∈ es, kgood c e.1 = true) {r : Option DX} (hr : dget es kx r) : PJ P G o rh L s (lres ok te r) [] := by
  refine pj_value fun M F U w a hS hG hx => ?_
  have h1 := hx x (by simp [ho, Op.operands])
  have h2 := hx k (by simp [ho, Op.operands])
  rw [hx1] at h1
  rw [hkx] at h2
  have hkv := kgood_val hg h2
  generalize he : a.eval x = u at h1
  cases h1 with
  | mp _ b hb =>
    obtain ⟨ents, clock, q1, q2, q3, q4, q5, q6⟩ := dmap_find hT hS hm hb hk hs hg hall
    obtain ⟨z, hz1, hz2⟩ := hT.zv hte
    have hun := run_underlying' ((hT t ti ht).1) w
    rw [hu] at hun
    have hrun : ∀ (v : Value) (b1 : Bool) (fr : Option (Nat × Value)), (Instr.findKey kt (kval kx) ents.toList).run P w = .ok fr w → (match fr with
        | some (_, v') => v' = v ∧ b1 = true
        | none => z = v ∧ b1 = false) → (Instr.lookup t (.map (some b)) (kval kx) ok).run P w = .ok (if ok = true then .tuple #[v, .bool b1] else v) w := by
      intro v b1 fr hf hv
      unfold Instr.lookup
      cases fr with
      | none =>
        obtain ⟨rfl, rfl⟩ := hv
        simp only [Sem.run_bind, hun, Result.andThen_ok, Sem.run_pure, run_getMap q1, flat_check hT hk hg, hf, hz1]
      | some jv =>
        obtain ⟨j, v'⟩ := jv
        obtain ⟨rfl, rfl⟩ := hv
        simp only [Sem.run_bind, hun, Result.andThen_ok, Sem.run_pure, run_getMap q1, flat_check hT hk hg, hf]
    have fin : ∀ (q : Option DX) (v : Value), (Instr.lookup t (.map (some b)) (kval kx) ok).run P w = .ok (if ok = true then .tuple #[v, .bool q.isSome] else v) w → (match q with
        | some x => RV M F w x.av v
        | none => RV M F w (zv te) v) → ∃ val, (execOp a.eval o).run P w = .ok (.value val) w ∧ RV M F w (lres ok te q) val := by
      intro q v h3 h4
      refine ⟨_, ?_, lres_rv h4⟩
      simp only [execOp, ho, he, hkv, Sem.run_bind, h3, Result.andThen_ok, Sem.run_pure]
    rcases q6 with ⟨f1, f2⟩ | ⟨j, e, y, f1, f2, f3, f4⟩
    · have hrn : r = none := by
        cases r with
        | none => rfl
        | some v =>
          obtain ⟨⟨e, he1, he2⟩, _⟩ := hr
          exact absurd he2 (f2 e he1)
      subst hrn
      exact fin none z (hrun z false none f1 ⟨rfl, rfl⟩) (hz2 M F w)
    · have hmem := List.mem_of_getElem? f3
      cases r with
      | none => exact absurd f4 (hr y hmem)
      | some v =>
        have hyv : y.2 = v := hr.2 y hmem f4
        refine fin (some v) e.val (hrun e.val true _ f1 ⟨rfl, rfl⟩) ?_
        show RV M F w v.av e.val
        rw [← hyv]
        exact (q3 j e y f2 f3).2

/-- In a map that is nil nothing is found. -/
theorem pj_lookup_nil (hT : TabOK P T) {t kt et : TypeId} {ti te : TI} (ht : T t = some ti) (hu : ti.u = .map kt et) {c : Bool × List IntKind} (hk : flatK T kt = some c) (hte : T et = some te) {x k : Operand} {ok : Bool} (ho : o.op = .lookup t x k ok)
    (hx1 : rh x = .d (.raw (.map none))) {kx : DX} (hkx : rh k = kx.av) (hg : kgood c kx = true) : PJ P G o rh L s (lres ok te none) [] := by
  refine pj_value fun M F U w a hS hG hx => ?_
  have h1 := hx x (by simp [ho, Op.operands])
  have h2 := hx k (by simp [ho, Op.operands])
  rw [hx1] at h1
  rw [hkx] at h2
  have hkv := kgood_val hg h2
  obtain ⟨z, hz1, hz2⟩ := hT.zv hte
  have hun := run_underlying' ((hT t ti ht).1) w
  rw [hu] at hun
  have hfind : (Instr.findKey kt (kval kx) []).run P w = .ok none w := by
    rcases flat_inv hT hk with ⟨k, rfl, hu⟩ | ⟨fs, ks, rfl, hu, hf⟩ <;>
      (unfold Instr.findKey; simp only [Sem.run_bind, run_underlying' hu, Result.andThen_ok]; rfl)
  refine ⟨_, ?_, lres_rv (r := none) (hz2 M F w)⟩
  simp only [execOp, ho, h1.raw_inv, hkv, Sem.run_bind]
  unfold Instr.lookup
  simp only [Sem.run_bind, hun, Result.andThen_ok, Sem.run_pure, flat_check hT hk hg, hfind, hz1]
  rfl

/-- How many a map has. -/
def vmlen (s : List (Nat × AB)) (x : AV) : Option Int := match x with
  | .mp (.g id) => match sfind s id with
    | some (.dmap es) => some es.length
    | some (.map es) => some es.length
    | _ => none
  | .d (.raw (.map none)) => some 0
  | _ => none
theorem pj_mlen {t k e : TypeId} {ti : TI} (hT : TabOK P T) (ht : T t = some ti) (hu : ti.u = .map k e) {x : Operand} {n : Int} (ho : o.op = .call { callee := .builtin .len, args := #[x], argTypes := #[t] }) (hv : vmlen s (rh x) = some n) : PJ P G o rh L s (.d (.int .i64 n)) [] := by
  refine pj_value fun M F U w a hS hG hx => ⟨.int .i64 n, ?_, .d (.int _ _)⟩
  have h1 := hx x (by simp [ho, Op.operands, Call.operands])
  have hun := run_underlying' ((hT t ti ht).1) w
  rw [hu] at hun
  have fin : ∀ (u : Value), a.eval x = u → (Builtin.len_ #[t] 0 #[u]).run P w = .ok (.int .i64 n) w → (execOp a.eval o).run P w = .ok (.value (.int .i64 n)) w := by
    intro u hu2 h
    simp only [execOp, ho, resolve, invoke, builtin, Sem.run_bind, Sem.run_pure, Result.andThen_ok, List.map_toArray, List.map_cons, List.map_nil, hu2]
    have : (Builtin.len_ #[t] 0 #[u]).run P w = .ok (.int .i64 n) w := h
    first
      | (rw [this]; rfl)
      | (erw [this]; rfl)
  unfold vmlen at hv
  split at hv
  · rename_i id e1
    rw [e1] at h1
    generalize he : a.eval x = u at h1
    cases h1 with
    | mp _ b hb =>
      have key : ∀ m : Nat, (∃ ents clock, w.heap[b]? = some (.map ents clock) ∧ ents.size = m) → n = (m : Int) → (execOp a.eval o).run P w = .ok (.value (.int .i64 n)) w := by
        rintro m ⟨ents, clock, q1, q2⟩ rfl
        refine fin _ he ?_
        unfold Builtin.len_
        simp [Sem.run_bind, hun, run_getMap q1, q2, goInt]
      split at hv <;> cases hv
      · rename_i es hm
        obtain ⟨ents, clock, q1, q2, _⟩ := hS.rb (.g id) _ b (sfind_mem hm) hb
        exact key _ ⟨ents, clock, q1, q2⟩ rfl
      · rename_i es hm
        obtain ⟨ents, clock, q1, q2, _⟩ := hS.rb (.g id) _ b (sfind_mem hm) hb
        exact key _ ⟨ents, clock, q1, q2⟩ rfl
  · rename_i e1
    cases hv
    rw [e1] at h1
    refine fin _ h1.raw_inv ?_
    unfold Builtin.len_
    simp [Sem.run_bind, hun, goInt]
  · cases hv
end
end Go.Pv
