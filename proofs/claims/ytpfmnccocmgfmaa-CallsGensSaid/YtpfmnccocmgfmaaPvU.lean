/- Maps whose entries are told by a list without a key twice. -/
import Derived.Test.YtpfmnccocmgfmaaPvR
namespace Go.Pv
open Go.RowKit

section
variable {α β : Type} (κ : α → β)

def encM (enc : β → DX) (ev : α → DX) (l : List α) : List (DX × DX) := l.map fun a => (enc (κ a), ev a)
section
variable {κ} {enc : β → DX} {ev : α → DX}
theorem key_uniq {l : List α} (hn : (l.map κ).Nodup) {a b : α} (ha : a ∈ l) (hb : b ∈ l) (h : κ a = κ b) : a = b := by
  obtain ⟨i, hi⟩ := List.mem_iff_getElem?.1 ha
  obtain ⟨j, hj⟩ := List.mem_iff_getElem?.1 hb
  have hi' : (l.map κ)[i]? = some (κ a) := by rw [List.getElem?_map, hi]; rfl
  have hj' : (l.map κ)[j]? = some (κ b) := by rw [List.getElem?_map, hj]; rfl
  have hlt := (List.getElem?_eq_some_iff.1 hi').1
  have := (List.getElem?_inj hlt hn).1 (hi'.trans (by rw [hj', h]))
  subst this
  rw [hi] at hj
  exact Option.some.inj hj
theorem enc_idx (hinj : ∀ a b, enc a = enc b → a = b) {l : List α} (hn : (l.map κ).Nodup) {j : Nat} {x : α} (hx : l[j]? = some x) {b : β} (hk : κ x = b) :
    (∃ y, (encM κ enc ev l)[j]? = some y ∧ y.1 = enc b) ∧ ∀ i y, (encM κ enc ev l)[i]? = some y → y.1 = enc b → i = j := by
  unfold encM
  refine ⟨⟨(enc (κ x), ev x), by rw [List.getElem?_map, hx]; rfl, by rw [hk]⟩, fun i y hy he => ?_⟩
  rw [List.getElem?_map] at hy
  obtain ⟨z, hz, rfl⟩ := Option.map_eq_some_iff.1 hy
  have h1 : κ z = b := hinj _ _ he
  have hi' : (l.map κ)[i]? = some b := by rw [List.getElem?_map, hz, ← h1]; rfl
  have hj' : (l.map κ)[j]? = some b := by rw [List.getElem?_map, hx, ← hk]; rfl
  exact (List.getElem?_inj (List.getElem?_eq_some_iff.1 hi').1 hn).1 (hi'.trans hj'.symm)
theorem map_erase {γ : Type} (f : α → γ) (l : List α) (j : Nat) : (l.map f).eraseIdx j = (l.eraseIdx j).map f := by
  apply List.ext_getElem?
  intro i
  rw [List.getElem?_map, List.getElem?_eraseIdx, List.getElem?_eraseIdx]
  split <;> rw [List.getElem?_map]
theorem good_enc {c : Bool × List IntKind} (h : ∀ b, kgood c (enc b) = true) (l : List α) : ∀ e ∈ encM κ enc ev l, kgood c e.1 = true := fun e he => by
  obtain ⟨x, hx, rfl⟩ := List.mem_map.1 he
  exact h _
end
variable [DecidableEq β]
def aget (l : List α) (b : β) : Option α := match l with
  | [] => none
  | x :: r => if κ x = b then some x else aget r b
def aput (l : List α) (a : α) : List α := match l with
  | [] => [a]
  | x :: r => if κ x = κ a then a :: r else x :: aput r a
def adel (l : List α) (b : β) : List α := match l with
  | [] => []
  | x :: r => if κ x = b then r else x :: adel r b

variable {κ} {enc : β → DX} {ev : α → DX}

theorem aget_none : ∀ {l : List α} {b : β}, aget κ l b = none → ∀ a ∈ l, κ a ≠ b
  | [], b, _, a, ha => by simp at ha
  | x :: r, b, h, a, ha => by
    simp only [aget] at h
    split at h
    · cases h
    · rename_i hn
      rcases List.mem_cons.1 ha with rfl | ha
      · exact hn
      · exact aget_none h a ha
theorem aget_some : ∀ {l : List α} {b : β} {a : α}, aget κ l b = some a → a ∈ l ∧ κ a = b
  | [], b, a, h => by simp [aget] at h
  | x :: r, b, a, h => by
    simp only [aget] at h
    split at h
    · rename_i hx
      cases h
      exact ⟨by simp, hx⟩
    · obtain ⟨h1, h2⟩ := aget_some h
      exact ⟨List.mem_cons_of_mem _ h1, h2⟩
theorem dget_enc (hinj : ∀ a b, enc a = enc b → a = b) {l : List α} (hn : (l.map κ).Nodup) (b : β) : dget (encM κ enc ev l) (enc b) ((aget κ l b).map ev) := by
  cases h : aget κ l b with
  | none =>
    intro e he
    obtain ⟨a, ha, rfl⟩ := List.mem_map.1 he
    exact fun e => aget_none h a ha (hinj _ _ e)
  | some a =>
    obtain ⟨h1, h2⟩ := aget_some h
    refine ⟨⟨_, List.mem_map.2 ⟨a, h1, rfl⟩, by simp only [h2]⟩, fun e he hk => ?_⟩
    obtain ⟨a', ha', rfl⟩ := List.mem_map.1 he
    have := key_uniq hn ha' h1 ((hinj _ _ hk).trans h2.symm)
    subst this
    rfl
theorem aput_mem : ∀ {l : List α} {a x : α}, x ∈ aput κ l a → x = a ∨ (x ∈ l ∧ (κ x ≠ κ a ∨ x = a) ∨ x ∈ l)
  | [], a, x, h => by simp [aput] at h; exact .inl h
  | y :: r, a, x, h => by
    simp only [aput] at h
    split at h
    · rcases List.mem_cons.1 h with rfl | h
      · exact .inl rfl
      · exact .inr (.inr (List.mem_cons_of_mem _ h))
    · rcases List.mem_cons.1 h with rfl | h
      · exact .inr (.inr (by simp))
      · rcases aput_mem h with rfl | ⟨h, _⟩ | h
        · exact .inl rfl
        · exact .inr (.inr (List.mem_cons_of_mem _ h))
        · exact .inr (.inr (List.mem_cons_of_mem _ h))
theorem aput_keys : ∀ {l : List α} {a : α}, (aput κ l a).map κ = if κ a ∈ l.map κ then l.map κ else l.map κ ++ [κ a]
  | [], a => by simp [aput]
  | y :: r, a => by
    simp only [aput]
    by_cases h : κ y = κ a
    · rw [if_pos h, if_pos (by simp [h])]
      simp [h]
    · rw [if_neg h]
      simp only [List.map_cons, aput_keys (l := r) (a := a)]
      by_cases h2 : κ a ∈ r.map κ
      · rw [if_pos h2, if_pos (by simp only [List.mem_cons]; exact .inr h2)]
      · rw [if_neg h2, if_neg (by simp only [List.mem_cons]; rintro (e | e); exact h e.symm; exact h2 e)]
        simp
theorem aput_nodup {l : List α} (hn : (l.map κ).Nodup) (a : α) : ((aput κ l a).map κ).Nodup := by
  rw [aput_keys]
  split
  · exact hn
  · rename_i h
    refine List.nodup_append.2 ⟨hn, by simp, fun x hx y hy e => ?_⟩
    simp at hy
    subst hy
    subst e
    exact h hx
theorem adel_sub : ∀ {l : List α} {b : β}, (adel κ l b).Sublist l
  | [], b => by simp [adel]
  | x :: r, b => by
    simp only [adel]
    split
    · exact List.sublist_cons_self _ _
    · exact adel_sub.cons_cons x
theorem adel_nodup {l : List α} (hn : (l.map κ).Nodup) (b : β) : ((adel κ l b).map κ).Nodup := hn.sublist (adel_sub.map κ)
theorem aput_set : ∀ {l : List α} {a x : α} {j : Nat}, (l.map κ).Nodup → l[j]? = some x → κ x = κ a → aput κ l a = l.set j a
  | [], a, x, j, _, h, _ => by simp at h
  | y :: r, a, x, j, hn, h, hk => by
    simp only [aput]
    cases j with
    | zero =>
      simp at h
      subst h
      rw [if_pos hk]
      rfl
    | succ j =>
      simp only [List.map_cons, List.nodup_cons] at hn
      have hx : x ∈ r := List.mem_of_getElem? (by simpa using h)
      rw [if_neg (fun e => hn.1 (by rw [e, ← hk]; exact List.mem_map.2 ⟨x, hx, rfl⟩)), aput_set hn.2 (by simpa using h) hk]
      rfl
theorem adel_erase : ∀ {l : List α} {b : β} {x : α} {j : Nat}, (l.map κ).Nodup → l[j]? = some x → κ x = b → adel κ l b = l.eraseIdx j
  | [], b, x, j, _, h, _ => by simp at h
  | y :: r, b, x, j, hn, h, hk => by
    simp only [adel]
    cases j with
    | zero =>
      simp at h
      subst h
      rw [if_pos hk]
      rfl
    | succ j =>
      simp only [List.map_cons, List.nodup_cons] at hn
      have hx : x ∈ r := List.mem_of_getElem? (by simpa using h)
      rw [if_neg (fun e => hn.1 (by rw [e, ← hk]; exact List.mem_map.2 ⟨x, hx, rfl⟩)), adel_erase hn.2 (by simpa using h) hk]
      rfl
theorem aput_app : ∀ {l : List α} {a : α}, (∀ x ∈ l, κ x ≠ κ a) → aput κ l a = l ++ [a]
  | [], a, _ => rfl
  | y :: r, a, h => by
    simp only [aput]
    rw [if_neg (h y (by simp)), aput_app (fun x hx => h x (by simp [hx]))]
    rfl
theorem adel_same : ∀ {l : List α} {b : β}, (∀ x ∈ l, κ x ≠ b) → adel κ l b = l
  | [], b, _ => rfl
  | y :: r, b, h => by
    simp only [adel]
    rw [if_neg (h y (by simp)), adel_same (fun x hx => h x (by simp [hx]))]
theorem dput_enc (hinj : ∀ a b, enc a = enc b → a = b) {l : List α} (hn : (l.map κ).Nodup) (a : α) : dput (encM κ enc ev l) (enc (κ a)) (ev a) (encM κ enc ev (aput κ l a)) := by
  cases h : aget κ l (κ a) with
  | none =>
    have hne := aget_none h
    refine .inl ⟨fun e he => ?_, ?_⟩
    · obtain ⟨x, hx, rfl⟩ := List.mem_map.1 he
      exact fun e => hne x hx (hinj _ _ e)
    · rw [aput_app hne]
      simp [encM]
  | some x =>
    obtain ⟨h1, h2⟩ := aget_some h
    obtain ⟨j, hj⟩ := List.mem_iff_getElem?.1 h1
    obtain ⟨k1, k2⟩ := enc_idx (ev := ev) hinj hn hj h2
    refine .inr ⟨j, k1, k2, ?_⟩
    rw [aput_set hn hj h2]
    simp [encM, List.map_set]
theorem ddel_enc (hinj : ∀ a b, enc a = enc b → a = b) {l : List α} (hn : (l.map κ).Nodup) (b : β) : ddel (encM κ enc ev l) (enc b) (encM κ enc ev (adel κ l b)) := by
  cases h : aget κ l b with
  | none =>
    have hne := aget_none h
    refine .inl ⟨fun e he => ?_, by rw [adel_same hne]⟩
    obtain ⟨x, hx, rfl⟩ := List.mem_map.1 he
    exact fun e => hne x hx (hinj _ _ e)
  | some x =>
    obtain ⟨h1, h2⟩ := aget_some h
    obtain ⟨j, hj⟩ := List.mem_iff_getElem?.1 h1
    obtain ⟨k1, k2⟩ := enc_idx (ev := ev) hinj hn hj h2
    refine .inr ⟨j, k1, k2, ?_⟩
    rw [adel_erase hn hj h2]
    simp [encM, map_erase]
end
end Go.Pv
