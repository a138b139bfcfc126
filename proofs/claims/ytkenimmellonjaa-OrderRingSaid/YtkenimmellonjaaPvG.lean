/- The order that a region's edges force; a region in every order. -/
import Derived.Test.YtkenimmellonjaaPvF
namespace Go.Pv
open Go.RowKit

/-- What an operation waits for, as bits, through all that that waits for. -/
def maskOf (acc : List Nat) (o : Oper) : Nat := o.after.toList.foldl (fun m e => match Region.binds .any e with
  | true => m ||| (2 ^ e.on ||| acc.getD e.on 0)
  | false => m) 0
def masks : List Nat → List Oper → List Nat
  | acc, [] => acc
  | acc, o :: r => masks (acc ++ [maskOf acc o]) r

theorem fold_bit (acc : List Nat) (j : Nat) : ∀ (es : List Edge) (m : Nat), (es.foldl (fun m e => match Region.binds .any e with
    | true => m ||| (2 ^ e.on ||| acc.getD e.on 0)
    | false => m) m).testBit j = true → m.testBit j = true ∨ ∃ e ∈ es, Region.binds .any e = true ∧ (e.on = j ∨ (acc.getD e.on 0).testBit j = true)
  | [], m, h => .inl h
  | e :: es, m, h => by
    rw [List.foldl_cons] at h
    rcases fold_bit acc j es _ h with h | ⟨e', he', h⟩
    · cases hb : Region.binds .any e with
      | false => rw [hb] at h; exact .inl h
      | true =>
        rw [hb] at h
        simp only [Nat.testBit_or, Bool.or_eq_true, Nat.testBit_two_pow] at h
        rcases h with h | h | h
        · exact .inl h
        · exact .inr ⟨e, by simp, hb, .inl (by simpa using h)⟩
        · exact .inr ⟨e, by simp, hb, .inr h⟩
    · exact .inr ⟨e', by simp [he'], h⟩

theorem masks_pre : ∀ (ops : List Oper) (acc : List Nat), ∃ X, masks acc ops = acc ++ X ∧ X.length = ops.length
  | [], acc => ⟨[], by simp [masks]⟩
  | o :: r, acc => by
    obtain ⟨X, h, hl⟩ := masks_pre r (acc ++ [maskOf acc o])
    exact ⟨maskOf acc o :: X, by simp [masks, h], by simp [hl]⟩
theorem masks_get : ∀ (ops : List Oper) (acc : List Nat) (i : Nat) (o : Oper), ops[i]? = some o → ∃ acc', (masks acc ops)[acc.length + i]? = some (maskOf acc' o) ∧ (∃ X, masks acc ops = acc' ++ X) ∧ acc'.length = acc.length + i
  | [], acc, i, o, h => by simp at h
  | o' :: r, acc, 0, o, h => by
    simp at h
    subst h
    obtain ⟨X, h, _⟩ := masks_pre r (acc ++ [maskOf acc o'])
    refine ⟨acc, ?_, ⟨[maskOf acc o'] ++ X, by simp [masks, h]⟩, by simp⟩
    simp [masks, h]
  | o' :: r, acc, i + 1, o, h => by
    simp at h
    obtain ⟨acc', h1, h2, h3⟩ := masks_get r (acc ++ [maskOf acc o']) i o h
    refine ⟨acc', ?_, h2, by simp at h3; omega⟩
    simp only [masks]
    rw [← h1]
    simp
    congr 1
    omega

def Lsd (listed : Array Bool) (i : Nat) : Prop := listed.getD i false = true
/-- What is listed has all that it waits for. -/
def Closed (ops : List Oper) (listed : Array Bool) : Prop := ∀ j o, ops[j]? = some o → Lsd listed j → ∀ e ∈ o.after.toList, Region.binds .any e = true → Lsd listed e.on

theorem waits {ops : List Oper} {listed : Array Bool} (hc : Closed ops listed) : ∀ (i j : Nat) (o : Oper), ops[i]? = some o → (∀ e ∈ o.after.toList, Region.binds .any e = true → Lsd listed e.on) →
    ((masks [] ops).getD i 0).testBit j = true → Lsd listed j := by
  intro i
  induction i using Nat.strongRecOn with
  | _ i ih =>
    intro j o ho hd hb
    obtain ⟨acc, h1, ⟨X, h2⟩, h3⟩ := masks_get ops [] i o ho
    simp at h1 h3
    rw [List.getD_eq_getElem?_getD, h1, Option.getD_some] at hb
    rcases fold_bit acc j _ 0 hb with hb | ⟨e, he, hbe, hb⟩
    · simp at hb
    · have hle := hd e he hbe
      rcases hb with rfl | hb
      · exact hle
      · rcases Nat.lt_or_ge e.on i with hlt | hge
        · cases hoe : ops[e.on]? with
          | none =>
            have : ops.length ≤ e.on := by simpa using hoe
            have := (List.getElem?_eq_some_iff.1 ho).1
            omega
          | some oe =>
            refine ih e.on hlt j oe hoe (fun e' he' hb' => hc e.on oe hoe hle e' he' hb') ?_
            rw [h2, List.getD_eq_getElem?_getD, List.getElem?_append_left (by omega), ← List.getD_eq_getElem?_getD]
            exact hb
        · rw [List.getD_eq_getElem?_getD, List.getElem?_eq_none (by omega)] at hb
          simp at hb

/-- The slots that an operation names. -/
def tmpsOf (o : Oper) : List Nat := o.op.operands.toList.filterMap fun | .tmp t => some t | _ => none
def memN (t : Nat) : List Nat → Bool
  | [] => false
  | x :: r => Nat.beq x t || memN t r
theorem memN_of {t : Nat} : ∀ {l : List Nat}, t ∈ l → memN t l = true
  | x :: r, h => by
    simp only [memN, Bool.or_eq_true]
    rcases List.mem_cons.1 h with h | h
    · subst h; exact .inl (Nat.beq_refl t)
    · exact .inr (memN_of h)
/-- Who reads a slot and who writes it wait for each other; a guard's operation is waited for. -/
def ordAt (D : List Nat) (ops : List Oper) (o : Oper) (i : Nat) : Bool :=
  (match o.guard with
  | none => true
  | some (g, _) => (D.getD i 0).testBit g) &&
  (o.after.toList.all fun e => !(Region.binds .any e) || Nat.blt e.on i) &&
  (ops.zipIdx).all fun x => match x.1.dst with
    | none => true
    | some d => !(memN d (tmpsOf o)) || (match Nat.blt x.2 i with
      | true => (D.getD i 0).testBit x.2
      | false => (match Nat.blt i x.2 with
        | true => (D.getD x.2 0).testBit i
        | false => true))
def ordOK (ops : List Oper) : Bool := (ops.zipIdx).all fun x => ordAt (masks [] ops) ops x.1 x.2
/-- What moves slots alone. -/
def slotOp : Op → Bool
  | .move _ => true
  | .assign _ => true
  | .extract _ _ => true
  | _ => false
def noSel (ops : List Oper) : Bool := ops.all fun o => match o.op with
  | .select _ _ => false
  | _ => true
/-- It may come whenever it is ready: who does not wait for it has nothing to do with its slots. -/
def lateAt (ops : List Oper) (i : Nat) : Bool := match ops[i]? with
  | some o => slotOp o.op && o.guard.isNone && (ops.zipIdx).all fun x => Nat.beq x.2 i || x.1.after.toList.any (fun e => Region.binds .any e && Nat.beq e.on i) || ((masks [] ops).getD i 0).testBit x.2 || o.apart ops.toArray x.1
  | none => false
/-- From k on each waits for all ahead of it, but for what moves slots alone. -/
def tailOK (ops : List Oper) (k : Nat) : Bool := (ops.zipIdx).all fun x => Nat.blt x.2 k || (List.range x.2).all fun j => ((masks [] ops).getD x.2 0).testBit j || (Nat.blt j k && noSel ops && lateAt ops j)

theorem zipIdx_mem {ops : List Oper} {o : Oper} {i : Nat} (h : ops[i]? = some o) : (o, i) ∈ ops.zipIdx := by
  rw [List.mem_iff_getElem?]
  exact ⟨i, by simp [h]⟩
theorem ord_guard {ops : List Oper} {i : Nat} {o : Oper} {g : Nat} {p : Bool} (h : ordOK ops = true) (ho : ops[i]? = some o) (hg : o.guard = some (g, p)) : ((masks [] ops).getD i 0).testBit g = true := by
  have := List.all_eq_true.1 h _ (zipIdx_mem ho)
  simp only [ordAt, hg, Bool.and_eq_true] at this
  exact this.1.1
theorem ord_slot {ops : List Oper} {i j : Nat} {o o' : Oper} {t : Nat} (h : ordOK ops = true) (ho : ops[i]? = some o) (hj : ops[j]? = some o') (hd : o'.dst = some t) (ht : t ∈ tmpsOf o) :
    (j < i → ((masks [] ops).getD i 0).testBit j = true) ∧ (i < j → ((masks [] ops).getD j 0).testBit i = true) := by
  have := List.all_eq_true.1 h _ (zipIdx_mem ho)
  simp only [ordAt, Bool.and_eq_true] at this
  have := List.all_eq_true.1 this.2 _ (zipIdx_mem hj)
  simp only [hd, memN_of ht, Bool.not_true, Bool.false_or] at this
  constructor
  · intro hji
    have hb : Nat.blt j i = true := by rw [Nat.blt_eq]; exact hji
    rw [hb] at this
    exact this
  · intro hij
    have hb : Nat.blt j i = false := by
      cases hb : Nat.blt j i with
      | false => rfl
      | true => rw [Nat.blt_eq] at hb; omega
    have hb2 : Nat.blt i j = true := by rw [Nat.blt_eq]; exact hij
    rw [hb, hb2] at this
    exact this
theorem tail_wait {ops : List Oper} {k i j : Nat} {o : Oper} (h : tailOK ops k = true) (ho : ops[i]? = some o) (hk : k ≤ i) (hj : j < i) : ((masks [] ops).getD i 0).testBit j = true ∨ (j < k ∧ noSel ops = true ∧ lateAt ops j = true) := by
  have := List.all_eq_true.1 h _ (zipIdx_mem ho)
  simp only [Bool.or_eq_true] at this
  rcases this with h1 | h1
  · rw [Nat.blt_eq] at h1; omega
  · have := List.all_eq_true.1 h1 j (List.mem_range.2 hj)
    simp only [Bool.or_eq_true, Bool.and_eq_true, Nat.blt_eq] at this
    rcases this with h | ⟨⟨h1, h2⟩, h3⟩
    · exact .inl h
    · exact .inr ⟨h1, h2, h3⟩

theorem ord_back {ops : List Oper} {i : Nat} {o : Oper} {e : Edge} (h : ordOK ops = true) (ho : ops[i]? = some o) (he : e ∈ o.after.toList) (hb : Region.binds .any e = true) : e.on < i := by
  have := List.all_eq_true.1 h _ (zipIdx_mem ho)
  simp only [ordAt, Bool.and_eq_true] at this
  have := List.all_eq_true.1 this.1.2 e he
  simp only [hb, Bool.not_true, Bool.false_or] at this
  rwa [Nat.blt_eq] at this

end Go.Pv
