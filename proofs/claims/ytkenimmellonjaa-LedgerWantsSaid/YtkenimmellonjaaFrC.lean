/- The framework, part 3: values, memory, verification conditions, walks; it states no property of the program. -/
import Derived.Test.YtkenimmellonjaaFrB
import Derived.LoopN
import Derived.ProofKit
import Derived.Deep.Slices
import Derived.Deep.Fields
/- The telling of a region: the operations ahead of its tail, then the tail. -/
namespace Go.Pv
open Go.RowKit

def vpre (P : Program) (cx : Ctx) (env : Env) (s : List (Nat × AB)) : List Oper → Nat → List RE → List AB → (List RE → List AB → Prop) → Prop
  | [], _, re, L, K => K re L
  | o :: rest, i, re, L, K => match okop cx.nt re o with
    | true => fG (gsOf re o.guard) fun gs => vop P cx (sg re gs) (rho cx.G env re) L s o.op fun v new => fAV 100 v fun v => fApp L new fun L => fO o.dst fun d => fN (i + 1) fun i1 => vpre P cx env s rest i1 (⟨i, d, gs, v⟩ :: re) L K
    | false => False

theorem reat_app {its its2 : List It} : ∀ {i : Nat}, i ≤ its.length → reat (its ++ its2) i = reat its i
  | 0, _ => rfl
  | i + 1, h => by
    unfold reat
    rw [List.getElem?_append_left (by omega), reat_app (by omega)]
theorem Lat_app {its its2 : List It} {L0 : List AB} {i : Nat} (h : i ≤ its.length) : Lat (its ++ its2) L0 i = Lat its L0 i := by
  unfold Lat
  rw [List.take_append_of_le_length h]
theorem sg_im {re : List RE} {gs : List (Nat × Bool)} (p : Prop) (h : sg re gs p) (hg : HG re gs) : p := by
  cases gs with
  | nil => exact h
  | cons x r => exact h hg

structure Told (P : Program) (cx : Ctx) (env : Env) (s : List (Nat × AB)) (its : List It) (L0 : List AB) : Prop where
  ok : ∀ (i : Nat) (it : It), its[i]? = some it → okop cx.nt (reat its i) it.o = true
  pj : ∀ (i : Nat) (it : It), its[i]? = some it → HG (reat its i) (gsAt its i it) → PJ2 P cx.G it.o (rho cx.G env (reat its i)) (Lat its L0 i) s it.v it.new

theorem vpre_sound {P : Program} {cx : Ctx} (hT : TabOK P cx.T) {env : Env} {s : List (Nat × AB)} {L0 : List AB} {K : List RE → List AB → Prop} : ∀ (rest : List Oper) (its : List It), Told P cx env s its L0 →
    vpre P cx env s rest its.length (reat its its.length) (Lat its L0 its.length) K →
    ∃ its2, its2.map (·.o) = rest ∧ Told P cx env s (its ++ its2) L0 ∧ K (reat (its ++ its2) (its ++ its2).length) (Lat (its ++ its2) L0 (its ++ its2).length)
  | [], its, hI, h => ⟨[], rfl, by simpa using hI, by simpa [vpre] using h⟩
  | o :: rest, its, hI, h => by
    simp only [vpre, fG_eq, fAV_eq, fApp_eq, fO_eq, fN_eq] at h
    split at h <;> try exact h.elim
    rename_i hok
    obtain ⟨v, new, hpj, h⟩ := vop_sound hT (H := HG (reat its its.length) (gsOf (reat its its.length) o.guard)) (fun p hp hg => sg_im p hp hg) h
    have hlen : (its ++ [(⟨o, v, new⟩ : It)]).length = its.length + 1 := by simp
    have hlast : (its ++ [(⟨o, v, new⟩ : It)])[its.length]? = some (⟨o, v, new⟩ : It) := by simp
    have hre : reat (its ++ [(⟨o, v, new⟩ : It)]) (its.length + 1) = ⟨its.length, o.dst, gsOf (reat its its.length) o.guard, v⟩ :: reat its its.length := by
      rw [reat, hlast]
      simp only [reat_app (its2 := [(⟨o, v, new⟩ : It)]) (Nat.le_refl its.length)]
    have hL : Lat (its ++ [(⟨o, v, new⟩ : It)]) L0 (its.length + 1) = Lat its L0 its.length ++ new := by
      rw [Lat_succ hlast, Lat_app (Nat.le_refl _)]
    have hI2 : Told P cx env s (its ++ [(⟨o, v, new⟩ : It)]) L0 := by
      refine ⟨fun i it hit => ?_, fun i it hit => ?_⟩
      · rcases Nat.lt_or_ge i its.length with hi | hi
        · rw [List.getElem?_append_left hi] at hit
          rw [reat_app (by omega)]
          exact hI.ok i it hit
        · have : i = its.length := by
            have := (List.getElem?_eq_some_iff.1 hit).1
            simp at this
            omega
          subst this
          rw [hlast] at hit
          cases hit
          rw [reat_app (Nat.le_refl _)]
          exact hok
      · rcases Nat.lt_or_ge i its.length with hi | hi
        · rw [List.getElem?_append_left hi] at hit
          unfold gsAt
          rw [reat_app (by omega), Lat_app (by omega)]
          exact hI.pj i it hit
        · have : i = its.length := by
            have := (List.getElem?_eq_some_iff.1 hit).1
            simp at this
            omega
          subst this
          rw [hlast] at hit
          cases hit
          unfold gsAt
          rw [reat_app (Nat.le_refl _), Lat_app (Nat.le_refl _)]
          exact hpj
    obtain ⟨its2, h1, h2, h3⟩ := vpre_sound hT rest (its ++ [(⟨o, v, new⟩ : It)]) hI2 (by rw [hlen, hre, hL]; exact h)
    refine ⟨⟨o, v, new⟩ :: its2, by simp [h1], by simpa using h2, by simpa using h3⟩

/-- The tail's operations: one that writes, told as it stands. -/
def fFresh : Nat → Nat → List (Nat × AB) → (Nat → Prop) → Prop
  | 0, _, _, _ => False
  | f + 1, n, s, K => match sfind s n with
    | none => K n
    | some _ => fN (n + 1) fun n => fFresh f n s K
theorem fFresh_some : ∀ {f n : Nat} {s : List (Nat × AB)} {K : Nat → Prop}, fFresh f n s K → ∃ n, sfind s n = none ∧ K n
  | 0, _, _, _, h => h.elim
  | f + 1, n, s, K, h => by
    simp only [fFresh, fN_eq] at h
    split at h
    · rename_i hn; exact ⟨n, hn, h⟩
    · exact fFresh_some h
def fNew (s : List (Nat × AB)) (K : Nat → Prop) : Prop := fLen s lits 0 fun n => fFresh 1000 n s K
theorem fNew_some {s : List (Nat × AB)} {K : Nat → Prop} (h : fNew s K) : ∃ n, sfind s n = none ∧ K n := by
  unfold fNew at h
  rw [fLen_eq] at h
  exact fFresh_some h
/-! ### Whom a call is told of -/
def addK (i : Nat) (acc : List Nat) (K : List Nat → Prop) : Prop := match memB i acc with
  | true => K acc
  | false => fN i fun i => appF acc [i] K
def occR (r : Rf) (acc : List Nat) (K : List Nat → Prop) : Prop := match r with
  | .g i => addK i acc K
  | .l _ => K acc
mutual
def occK : Nat → AV → List Nat → (List Nat → Prop) → Prop
  | 0, _, acc, K => K acc
  | n + 1, x, acc, K => match x with
    | .agg cs => occsK n cs acc K
    | .tup cs => occsK n cs acc K
    | .fn _ cs => occsK n cs acc K
    | .ifc _ x => occK n x acc K
    | .ref r _ => occR r acc K
    | .slc r _ _ _ _ => occR r acc K
    | .el r _ _ _ => occR r acc K
    | .mp r => occR r acc K
    | .d _ => K acc
    | .undef => K acc
def occsK : Nat → List AV → List Nat → (List Nat → Prop) → Prop
  | 0, _, acc, K => K acc
  | n + 1, xs, acc, K => match xs with
    | [] => K acc
    | x :: r => occK n x acc fun acc => occsK n r acc K
end
def occMK : List (AV × AV) → List Nat → (List Nat → Prop) → Prop
  | [], acc, K => K acc
  | (_, x) :: r, acc, K => occK 100 x acc fun acc => occMK r acc K
def occLLK : List (List AV) → List Nat → (List Nat → Prop) → Prop
  | [], acc, K => K acc
  | x :: r, acc, K => occsK 100 x acc fun acc => occLLK r acc K
def occBK (ab : AB) (acc : List Nat) (K : List Nat → Prop) : Prop := match ab with
  | .cells cs => occsK 100 cs acc K
  | .arow _ rows => occLLK rows acc K
  | .map es => occMK es acc K
  | .row _ _ => K acc
  | .dmap _ => K acc
  | .dead => K acc
def reachK : Nat → List (Nat × AB) → Nat → List Nat → (List Nat → Prop) → Prop
  | 0, _, _, acc, K => K acc
  | n + 1, s, j, acc, K => match acc[j]? with
    | none => K acc
    | some i => match sfind s i with
      | none => K acc
      | some ab => occBK ab acc fun acc => fN (j + 1) fun j => reachK n s j acc K
theorem addK_some {i : Nat} {acc : List Nat} {K : List Nat → Prop} (h : addK i acc K) : ∃ l, K l := by
  unfold addK at h
  split at h
  · exact ⟨_, h⟩
  · rw [fN_eq, appF_eq] at h; exact ⟨_, h⟩
theorem occR_some {r : Rf} {acc : List Nat} {K : List Nat → Prop} (h : occR r acc K) : ∃ l, K l := by
  unfold occR at h
  split at h
  · exact addK_some h
  · exact ⟨_, h⟩
mutual
theorem occK_some : ∀ {n : Nat} {x : AV} {acc : List Nat} {K : List Nat → Prop}, occK n x acc K → ∃ l, K l
  | 0, _, _, _, h => by simp only [occK] at h; exact ⟨_, h⟩
  | n + 1, x, acc, K, h => by
    unfold occK at h
    split at h
    · exact occsK_some h
    · exact occsK_some h
    · exact occsK_some h
    · exact occK_some h
    · exact occR_some h
    · exact occR_some h
    · exact occR_some h
    · exact occR_some h
    · exact ⟨_, h⟩
    · exact ⟨_, h⟩
theorem occsK_some : ∀ {n : Nat} {x : List AV} {acc : List Nat} {K : List Nat → Prop}, occsK n x acc K → ∃ l, K l
  | 0, _, _, _, h => by simp only [occsK] at h; exact ⟨_, h⟩
  | n + 1, x, acc, K, h => by
    unfold occsK at h
    split at h
    · exact ⟨_, h⟩
    · obtain ⟨l, h⟩ := occK_some h
      exact occsK_some h
end
theorem occMK_some : ∀ {x : List (AV × AV)} {acc : List Nat} {K : List Nat → Prop}, occMK x acc K → ∃ l, K l
  | [], _, _, h => ⟨_, h⟩
  | (_, x) :: r, acc, K, h => by
    obtain ⟨l, h⟩ := occK_some h
    exact occMK_some h
theorem occLLK_some : ∀ {x : List (List AV)} {acc : List Nat} {K : List Nat → Prop}, occLLK x acc K → ∃ l, K l
  | [], _, _, h => ⟨_, h⟩
  | x :: r, acc, K, h => by
    obtain ⟨l, h⟩ := occsK_some h
    exact occLLK_some h
theorem occBK_some {ab : AB} {acc : List Nat} {K : List Nat → Prop} (h : occBK ab acc K) : ∃ l, K l := by
  unfold occBK at h
  split at h
  · exact occsK_some h
  · exact occLLK_some h
  · exact occMK_some h
  · exact ⟨_, h⟩
  · exact ⟨_, h⟩
  · exact ⟨_, h⟩
theorem reachK_some : ∀ {n : Nat} {s : List (Nat × AB)} {j : Nat} {acc : List Nat} {K : List Nat → Prop}, reachK n s j acc K → ∃ l, K l
  | 0, _, _, _, _, h => ⟨_, h⟩
  | n + 1, s, j, acc, K, h => by
    unfold reachK at h
    split at h
    · exact ⟨_, h⟩
    · split at h
      · exact ⟨_, h⟩
      · obtain ⟨l, h⟩ := occBK_some h
        rw [fN_eq] at h
        exact reachK_some h
/-- How many names a callee tells of, and a name that nobody has. -/
def topK : List (Nat × AB) → Nat → (Nat → Prop) → Prop
  | [], m, K => K m
  | (i, _) :: r, m, K => match Nat.ble m i with
    | true => fN (i + 1) fun m => topK r m K
    | false => topK r m K
def namesK : Nat → Nat → List Nat → (List Nat → Prop) → Prop
  | 0, _, acc, K => K acc
  | n + 1, m, acc, K => appF acc [m] fun acc => fN (m + 1) fun m => namesK n m acc K
def tauK (s : List (Nat × AB)) (ρ : List Nat) (s1 : List (Nat × AB)) (K : List Nat → Prop) : Prop :=
  fLen ρ lits 0 fun k => topK s1 k fun m => topK s 0 fun f => fN (m - k) fun d => namesK d f [] K
theorem topK_some : ∀ {s : List (Nat × AB)} {m : Nat} {K : Nat → Prop}, topK s m K → ∃ l, K l
  | [], _, _, h => ⟨_, h⟩
  | (i, _) :: r, m, K, h => by
    unfold topK at h
    split at h
    · rw [fN_eq] at h; exact topK_some h
    · exact topK_some h
theorem namesK_some : ∀ {n m : Nat} {acc : List Nat} {K : List Nat → Prop}, namesK n m acc K → ∃ l, K l
  | 0, _, _, _, h => ⟨_, h⟩
  | n + 1, m, acc, K, h => by
    unfold namesK at h
    rw [appF_eq, fN_eq] at h
    exact namesK_some h
theorem tauK_some {s : List (Nat × AB)} {ρ : List Nat} {s1 : List (Nat × AB)} {K : List Nat → Prop} (h : tauK s ρ s1 K) : ∃ l, K l := by
  unfold tauK at h
  rw [fLen_eq] at h
  obtain ⟨m, h⟩ := topK_some h
  obtain ⟨f, h⟩ := topK_some h
  rw [fN_eq] at h
  exact namesK_some h

def capok (n bytes : Nat) : Prop := (2 * n + 1024) * bytes ≤ 281474976710656 ∧ n ≤ 4611686018427387904
def veff (P : Program) (cx : Ctx) (rh : Operand → AV) (L : List AB) (s : List (Nat × AB)) (op : Op) (K : AV → List AB → List (Nat × AB) → Prop) : Prop := match op with
  | .store t x y => match cx.T t with
    | some ti => match rh x with
      | .ref (.l k) off => match L[k]? with
        | some (.cells cs) => match boxable (rh y) && Nat.beq (rh y).cells.length ti.size && Nat.ble (off + ti.size) cs.length with
          | true => K .undef (L.set k (.cells (setN cs off (rh y).cells))) s
          | false => False
        | _ => False
      | .ref (.g id) off => match sfind s id with
        | some (.cells cs) => match boxable (rh y) && Nat.beq (rh y).cells.length ti.size && clL (rh y).cells && Nat.ble (off + ti.size) cs.length with
          | true => K .undef L (sput s id (.cells (setN cs off (rh y).cells)))
          | false => False
        | _ => False
      | .el (.g id) sz i j => match sfind s id with
        | some (.row sz' rows) => match undD (rh y).cells with
          | some xs => match boxable (rh y) && Nat.beq xs.length ti.size && Nat.ble (j + ti.size) sz && Nat.beq sz' sz with
            | true => ∃ row, rows[i]? = some row ∧ K .undef L (sput s id (.row sz (rows.set i (setN row j xs))))
            | false => False
          | none => False
        | _ => False
      | _ => False
    | none => False
  | .makeSlice t x y => match velem cx.T t with
    | some te => match rh x with
      | .d (.int _ l) => match rh y with
        | .d (.int _ c) => fNew s fun n => ∃ len cap : Nat, (l = len ∧ c = cap ∧ len ≤ cap ∧ cap * te.bytes ≤ 281474976710656 ∧ cap ≤ 4611686018427387904) ∧ K (.slc (.g n) te.size 0 len cap) L (s ++ [(n, .row te.size (List.replicate len te.zero))])
        | _ => False
      | _ => False
    | none => False
  | .box _ x => match boxable (rh x) && clL (rh x).cells with
    | true => fNew s fun n => K (.ref (.g n) 0) L (s ++ [(n, .cells (rh x).cells)])
    | false => False
  | .alloc t => match cx.T t with
    | some ti => fNew s fun n => K (.ref (.g n) 0) L (s ++ [(n, .cells (ti.zero.map .d))])
    | none => False
  | .makeMap _ none => fNew s fun n => K (.mp (.g n)) L (s ++ [(n, .dmap [])])
  | .binOp op t x (.const (.slice none 0 0)) _ => match velem cx.T t with
    | some _ => match op with
      | .eql => nilK (rh x) fun b => K (.d (.bool b)) L s
      | .neq => nilK (rh x) fun b => K (.d (.bool (!b))) L s
      | _ => False
    | none => False
  | .mapUpdate t x k y => match cx.T t with
    | some ti => match ti.u with
      | .map kt _ => match flatK cx.T kt with
        | some c => match dxOf (rh k) with
          | some kx => match dxOf (rh y) with
            | some vx => match rh x with
              | .mp (.g id) => match sfind s id with
                | some (.dmap es) => P.stoodInHeld kt = false ∧ ∃ es', (kgood c kx = true ∧ (∀ e ∈ es, kgood c e.1 = true) ∧ dput es kx vx es') ∧ K .undef L (sput s id (.dmap es'))
                | _ => False
              | _ => False
            | none => False
          | none => False
        | none => False
      | _ => False
    | none => False
  | .call c => match c.callee with
    | .builtin .append => match c.args.toList with
      | [x, y] => match c.argTypes.toList with
        | [t, t2] => match velem cx.T t with
          | some te => match velem cx.T t2 with
            | some _ => match te.size with
              | 0 => False
              | _ + 1 => srcK s te.size (rh y) fun rows => match rh x with
                | .d .nil => capok rows.length te.bytes ∧ match rows with
                  | [] => K (.d .nil) L s
                  | r :: rs => fNew s fun n => ∀ c, (r :: rs).length ≤ c → K (.slc (.g n) te.size 0 (r :: rs).length c) L (s ++ [(n, .row te.size (r :: rs))])
                | .d .emp => capok rows.length te.bytes ∧ match rows with
                  | [] => K (.d .emp) L s
                  | r :: rs => fNew s fun n => ∀ c, (r :: rs).length ≤ c → K (.slc (.g n) te.size 0 (r :: rs).length c) L (s ++ [(n, .row te.size (r :: rs))])
                | .slc (.g id) sz 0 len _ => match sfind s id with
                  | some (.row sz' old) => match Nat.beq sz te.size && Nat.beq sz' te.size with
                    | true => len ≤ old.length ∧ capok (len + rows.length) te.bytes ∧ fNew s fun n => ∀ c, len + rows.length ≤ c → K (.slc (.g n) te.size 0 (len + rows.length) c) L (sput s id .dead ++ [(n, .row te.size (old.take len ++ rows))])
                    | false => False
                  | _ => False
                | _ => False
            | none => match cx.T t2 with
              | some t2i => match t2i.u with
                | .int _ => match te.size with
                  | 0 => False
                  | _ + 1 => match rh x with
                    | .slc (.g id) sz off len cap => match sfind s id with
                      | some (.row sz' old) => match Nat.beq sz te.size && Nat.beq sz' te.size with
                        | true => match rh y with
                          | .d (.int _ m) => ∃ k : Nat, (m = k ∧ 0 < k ∧ cap < len + k ∧ off + len ≤ old.length ∧ capok (len + k) te.bytes) ∧ fNew s fun n => ∀ c, len + k ≤ c → K (.slc (.g n) te.size 0 (len + k) c) L (s ++ [(n, .row te.size ((old.drop off).take len ++ List.replicate k te.zero))])
                          | _ => False
                        | false => False
                      | _ => False
                    | _ => False
                | _ => False
              | none => False
          | none => False
        | _ => False
      | _ => False
    | .builtin .copy => match c.args.toList with
      | [x, y] => match c.argTypes.toList with
        | [t, t2] => match velem cx.T t with
          | some te => match velem cx.T t2 with
            | some _ => match te.size with
              | 0 => False
              | _ + 1 => match rh x with
                | .slc (.g id) sz off len _ => match sfind s id with
                  | some (.row sz' old) => match Nat.beq sz te.size && Nat.beq sz' te.size with
                    | true => off ≤ old.length ∧ srcN s te.size len (rh y) fun l2 rows => K (.d (.int .i64 ((min l2 len : Nat) : Int))) L (sput s id (.row te.size (splice old off rows)))
                    | false => False
                  | _ => False
                | _ => False
            | none => False
          | none => False
        | _ => False
      | _ => False
    | .builtin .clear => match c.args.toList with
      | [x] => match c.argTypes.toList with
        | [t] => match velem cx.T t with
          | some te => match rh x with
            | .slc (.g id) sz off len _ => match sfind s id with
              | some (.row sz' old) => match Nat.beq sz te.size && Nat.beq sz' te.size with
                | true => off ≤ old.length ∧ K (.tup []) L (sput s id (.row te.size (splice old off (List.replicate len te.zero))))
                | false => False
              | _ => False
            | _ => False
          | none => False
        | _ => False
      | _ => False
    | .builtin .delete => match c.args.toList with
      | [x, k] => match c.argTypes.toList with
        | [t, _] => match cx.T t with
          | some ti => match ti.u with
            | .map kt _ => match flatK cx.T kt with
              | some c => match dxOf (rh k) with
                | some kx => match rh x with
                  | .mp (.g id) => match sfind s id with
                    | some (.dmap es) => P.stoodInHeld kt = false ∧ ∃ es', (kgood c kx = true ∧ (∀ e ∈ es, kgood c e.1 = true) ∧ ddel es kx es') ∧ K (.tup []) L (sput s id (.dmap es'))
                    | _ => False
                  | _ => False
                | none => False
              | none => False
            | _ => False
          | none => False
        | _ => False
      | _ => False
    | .value f => match rh f with
      | .fn g caps => fAVs 100 (c.args.toList.map rh ++ caps) fun args => occsK 100 args [] fun ρ0 => reachK 50 s 0 ρ0 fun ρ => match nodupB ρ with
        | true => match rnL (toF ρ) args with
          | some args1 => fAVs 100 args1 fun args1 => match selS ρ s ρ 0 with
            | some s0 => fSt s0 fun s0 => ∃ args' R, (WkL args1 args' ∧ Contract P cx.G g args' s0 R) ∧ ∀ res s1, R res s1 → tauK s ρ s1 fun τ => match nodupB (ρ ++ τ) && allNew s τ && covers s1 ρ.length with
              | true => match putS (ρ ++ τ) s1 s with
                | some s' => match res.rn (frF (ρ ++ τ)) with
                  | some res' => K res' L s'
                  | none => False
                | none => False
              | false => False
            | none => False
          | none => False
        | false => False
      | _ => False
    | _ => False
  | _ => False
def isEff : Op → Bool
  | .store _ _ _ => true
  | .box _ _ => true
  | .alloc _ => true
  | .makeMap _ none => true
  | .mapUpdate _ _ _ _ => true
  | .makeSlice _ _ _ => true
  | .binOp op _ _ (.const (.slice none 0 0)) _ => match op with
    | .eql => true
    | .neq => true
    | _ => false
  | .call c => match c.callee with
    | .value _ => true
    | .builtin .delete => true
    | .builtin .append => true
    | .builtin .copy => true
    | .builtin .clear => true
    | _ => false
  | _ => false

theorem EJ.mono {P : Program} {G : Gl} {o : Oper} {rh : Operand → AV} {L : List AB} {s : List (Nat × AB)} {K K' : AV → List AB → List (Nat × AB) → Prop} (h : EJ P G o rh L s K) (hK : ∀ v L' s', K v L' s' → K' v L' s') : EJ P G o rh L s K' :=
  fun M F U w a hS hG hx => Oper.wp_mono (fun _ _ ⟨v, L', s', val, M', F', U', hk, rest⟩ => ⟨v, L', s', val, M', F', U', hK _ _ _ hk, rest⟩) (h M F U w a hS hG hx)

theorem veff_sound {P : Program} {cx : Ctx} (hT : TabOK P cx.T) {rh : Operand → AV} {L : List AB} {s : List (Nat × AB)} {o : Oper} {K : AV → List AB → List (Nat × AB) → Prop} (h : veff P cx rh L s o.op K) : EJ P cx.G o rh L s K := by
  generalize hop : o.op = op at h
  cases op with
  | store t x y =>
    simp only [veff] at h
    split at h <;> try exact h.elim
    rename_i ti ht
    split at h
    · rename_i k off hx
      split at h <;> try exact h.elim
      rename_i cs hk
      split at h <;> try exact h.elim
      rename_i hb
      simp only [Bool.and_eq_true] at hb
      exact ej_store_cells hT ht hop hx hb.1.1 (beq_t hb.1.2) (Nat.le_of_ble_eq_true hb.2) (fun id e => by cases e) (.l L s k hk) h
    · rename_i id off hx
      split at h <;> try exact h.elim
      rename_i cs hm
      split at h <;> try exact h.elim
      rename_i hb
      simp only [Bool.and_eq_true] at hb
      exact ej_store_cells hT ht hop hx hb.1.1.1 (beq_t hb.1.1.2) (Nat.le_of_ble_eq_true hb.2) (fun _ _ => hb.1.2) (.gput _ hm) h
    · rename_i id sz i j hx
      split at h <;> try exact h.elim
      rename_i sz' rows hm
      split at h <;> try exact h.elim
      rename_i xs hxs
      split at h <;> try exact h.elim
      rename_i hb
      simp only [Bool.and_eq_true] at hb
      obtain ⟨row, hr, h⟩ := h
      have := beq_t hb.2
      subst this
      exact ej_store_el hT ht hop hx hm hr hb.1.1.1 hxs (beq_t hb.1.1.2) (Nat.le_of_ble_eq_true hb.1.2) h
    · exact h.elim
  | makeSlice t x y =>
    simp only [veff] at h
    split at h <;> try exact h.elim
    rename_i te hte
    obtain ⟨ti, e, h1, h2, h3⟩ := velem_inv hte
    split at h <;> try exact h.elim
    rename_i k1 l hx
    split at h <;> try exact h.elim
    rename_i k2 c hy
    obtain ⟨n, hn, len, cap, ⟨p1, p2, q1, q2, q3⟩, h4⟩ := fNew_some h
    subst p1
    subst p2
    exact ej_makeSlice hT h1 h2 h3 hop hx hy q1 q2 q3 hn h4
  | box t x =>
    simp only [veff] at h
    split at h <;> try exact h.elim
    rename_i hb
    simp only [Bool.and_eq_true] at hb
    obtain ⟨n, hn, h⟩ := fNew_some h
    exact ej_box hop hb.1 hb.2 hn h
  | alloc t =>
    simp only [veff] at h
    split at h <;> try exact h.elim
    rename_i ti ht
    obtain ⟨n, hn, h⟩ := fNew_some h
    exact ej_alloc hT ht hop hn h
  | binOp op t x y ty =>
    by_cases hy : y = .const (.slice none 0 0)
    · subst hy
      simp only [veff] at h
      split at h <;> try exact h.elim
      rename_i te hte
      obtain ⟨ti, e, h1, h2, h3⟩ := velem_inv hte
      split at h <;> try exact h.elim
      · exact ej_isnil hT h1 h2 hop (.inl rfl) (by simpa using h)
      · exact ej_isnil hT h1 h2 hop (.inr rfl) (by simpa using h)
    · have : False := by
        unfold veff at h
        split at h <;> simp_all
      exact this.elim
  | makeMap t r =>
    cases r with
    | none =>
      simp only [veff] at h
      obtain ⟨n, hn, h⟩ := fNew_some h
      exact ej_makeMap hop hn h
    | some r => exact (by simp [veff] at h)
  | mapUpdate t x k y =>
    simp only [veff] at h
    split at h <;> try exact h.elim
    rename_i ti ht
    split at h <;> try exact h.elim
    rename_i kt et hu
    split at h <;> try exact h.elim
    rename_i c hk
    split at h <;> try exact h.elim
    rename_i kx hkx
    split at h <;> try exact h.elim
    rename_i vx hvx
    split at h <;> try exact h.elim
    rename_i id hx
    split at h <;> try exact h.elim
    rename_i es hm
    obtain ⟨hs, es', ⟨h1, h2, h3⟩, h⟩ := h
    exact ej_mapUpdate hT ht hu hk hs hop hx hm (dxOf_av hkx) (dxOf_av hvx) h1 h2 h3 h
  | call c =>
    simp only [veff] at h
    obtain ⟨callee, args, tys⟩ := c
    simp only at h
    split at h <;> try exact h.elim
    · split at h <;> try exact h.elim
      rename_i x y hargs
      split at h <;> try exact h.elim
      rename_i t t2 htys
      have ha := arr_toList hargs
      have hb := arr_toList htys
      subst ha
      subst hb
      split at h <;> try exact h.elim
      rename_i te hte
      obtain ⟨ti, e, h1, h2, h3⟩ := velem_inv hte
      split at h
      rotate_left
      · split at h <;> try exact h.elim
        rename_i t2i ht2
        split at h <;> try exact h.elim
        rename_i kn hu2
        split at h <;> try exact h.elim
        rename_i m hsz
        have hpos : 0 < te.size := by omega
        split at h <;> try exact h.elim
        rename_i id sz off len cap hx
        split at h <;> try exact h.elim
        rename_i sz' old hid
        split at h <;> try exact h.elim
        rename_i hb
        simp only [Bool.and_eq_true] at hb
        have e1 := beq_t hb.1
        have e2 := beq_t hb.2
        subst e1
        subst e2
        split at h <;> try exact h.elim
        rename_i ky mm hy
        obtain ⟨k, ⟨p1, p2, p3, p4, p5, p6⟩, h⟩ := h
        subst p1
        obtain ⟨n, hn, h⟩ := fNew_some h
        exact ej_append_zeros hT h1 h2 h3 ht2 hu2 hpos hop hx hid p4 hy p2 p3 hn p5 p6 h
      rename_i te2 hte2
      obtain ⟨ti2, e2, g1, g2, g3⟩ := velem_inv hte2
      split at h <;> try exact h.elim
      rename_i m hsz
      have hpos : 0 < te.size := by omega
      obtain ⟨rows, hsrc, h⟩ := srcK_one h
      split at h <;> try exact h.elim
      · rename_i hx
        obtain ⟨⟨c1, c2⟩, h⟩ := h
        cases rows with
        | nil => exact ej_append_new (n := 0) (rows := []) hT h1 h2 h3 g1 g2 hpos hop (.inl hx) hsrc (fun e => absurd rfl e) c1 c2 (fun _ => by rw [hx]; exact h) (fun e => absurd rfl e)
        | cons r rs =>
          obtain ⟨n, hn, h⟩ := fNew_some h
          exact ej_append_new hT h1 h2 h3 g1 g2 hpos hop (.inl hx) hsrc (fun _ => hn) c1 c2 (fun e => (by cases e)) (fun _ => h)
      · rename_i hx
        obtain ⟨⟨c1, c2⟩, h⟩ := h
        cases rows with
        | nil => exact ej_append_new (n := 0) (rows := []) hT h1 h2 h3 g1 g2 hpos hop (.inr hx) hsrc (fun e => absurd rfl e) c1 c2 (fun _ => by rw [hx]; exact h) (fun e => absurd rfl e)
        | cons r rs =>
          obtain ⟨n, hn, h⟩ := fNew_some h
          exact ej_append_new hT h1 h2 h3 g1 g2 hpos hop (.inr hx) hsrc (fun _ => hn) c1 c2 (fun e => (by cases e)) (fun _ => h)
      · rename_i id sz len cap hx
        split at h <;> try exact h.elim
        rename_i sz' old hid
        split at h <;> try exact h.elim
        rename_i hb
        simp only [Bool.and_eq_true] at hb
        have e1 := beq_t hb.1
        have e2 := beq_t hb.2
        subst e1
        subst e2
        obtain ⟨hl, ⟨c1, c2⟩, h⟩ := h
        obtain ⟨n, hn, h⟩ := fNew_some h
        exact ej_append_own hT h1 h2 h3 g1 g2 hpos hop hx hid hl hsrc hn c1 c2 h
    · split at h <;> try exact h.elim
      rename_i x y hargs
      split at h <;> try exact h.elim
      rename_i t t2 htys
      have ha := arr_toList hargs
      have hb := arr_toList htys
      subst ha
      subst hb
      split at h <;> try exact h.elim
      rename_i te hte
      obtain ⟨ti, e, h1, h2, h3⟩ := velem_inv hte
      split at h <;> try exact h.elim
      rename_i te2 hte2
      obtain ⟨ti2, e2, g1, g2, g3⟩ := velem_inv hte2
      split at h <;> try exact h.elim
      rename_i m hsz
      have hpos : 0 < te.size := by omega
      split at h <;> try exact h.elim
      rename_i id sz off len cap hx
      split at h <;> try exact h.elim
      rename_i sz' old hid
      split at h <;> try exact h.elim
      rename_i hb
      simp only [Bool.and_eq_true] at hb
      have e1 := beq_t hb.1
      have e2 := beq_t hb.2
      subst e1
      subst e2
      obtain ⟨h0, h⟩ := h
      obtain ⟨l2, rows, hsrc, h⟩ := srcN_one h
      exact ej_copy hT h1 h2 h3 g1 g2 hpos hop hx hid h0 hsrc h
    · split at h <;> try exact h.elim
      rename_i x hargs
      split at h <;> try exact h.elim
      rename_i t htys
      have ha := arr_toList hargs
      have hb := arr_toList htys
      subst ha
      subst hb
      split at h <;> try exact h.elim
      rename_i te hte
      obtain ⟨ti, e, h1, h2, h3⟩ := velem_inv hte
      split at h <;> try exact h.elim
      rename_i id sz off len cap hx
      split at h <;> try exact h.elim
      rename_i sz' old hid
      split at h <;> try exact h.elim
      rename_i hb
      simp only [Bool.and_eq_true] at hb
      have e1 := beq_t hb.1
      have e2 := beq_t hb.2
      subst e1
      subst e2
      exact ej_clear hT h1 h2 h3 hop hx hid h.1 h.2
    · split at h <;> try exact h.elim
      rename_i x k hargs
      split at h <;> try exact h.elim
      rename_i t t2 htys
      have ha := arr_toList hargs
      have hb := arr_toList htys
      subst ha
      subst hb
      split at h <;> try exact h.elim
      rename_i ti ht
      split at h <;> try exact h.elim
      rename_i kt et hu
      split at h <;> try exact h.elim
      rename_i c hk
      split at h <;> try exact h.elim
      rename_i kx hkx
      split at h <;> try exact h.elim
      rename_i id hx
      split at h <;> try exact h.elim
      rename_i es hm
      obtain ⟨hs, es', ⟨h1, h2, h3⟩, h⟩ := h
      exact ej_delete hT ht hu hk hs hop hx hm (dxOf_av hkx) h1 h2 h3 h
    split at h <;> try exact h.elim
    rename_i g caps hg
    rw [fAVs_eq] at h
    obtain ⟨ρ0, h⟩ := occsK_some h
    obtain ⟨ρ, h⟩ := reachK_some h
    split at h <;> try exact h.elim
    rename_i hnd
    split at h <;> try exact h.elim
    rename_i args1 hrn
    rw [fAVs_eq] at h
    split at h <;> try exact h.elim
    rename_i s0 hs0
    rw [fSt_eq] at h
    obtain ⟨args', R, ⟨h1, h2⟩, h3⟩ := h
    refine ej_call hop hg hrn h1 hnd hs0 h2 fun res s1 hR => ?_
    obtain ⟨τ, q⟩ := tauK_some (h3 res s1 hR)
    split at q <;> try exact q.elim
    rename_i q1
    simp only [Bool.and_eq_true] at q1
    split at q <;> try exact q.elim
    rename_i s' hs'
    split at q <;> try exact q.elim
    rename_i res' hres'
    exact ⟨τ, s', res', q1.1.1, q1.1.2, q1.2, hs', hres', q⟩
  | _ => exact (by simp [veff] at h)

/-- Guards that are known not to be met. -/
def deadC (dead : List (List (Nat × Bool))) (gs : List (Nat × Bool)) : Bool := dead.any fun c => c.all (inL gs)
def skipB (re : List RE) (dead : List (List (Nat × Bool))) (o : Oper) : Bool := match dead with
  | [] => false
  | _ :: _ => match o.guard with
    | none => false
    | some (j, p) => match rfind re j with
      | some e => deadC dead e.gs || (match e.v with
        | .d (.bool _) => deadC dead ((j, p) :: e.gs)
        | _ => false)
      | none => false
def isCallV : Op → Bool
  | .call c => match c.callee with
    | .value _ => true
    | _ => false
  | _ => false
def orB (b : Bool) (p q : Prop) : Prop := match b with
  | true => p ∨ q
  | false => q
def orC (b : Bool) (p q : Prop) : Prop := match b with
  | true => p ∨ q
  | false => p
theorem orC_or {b : Bool} {p q : Prop} (h : orC b p q) : p ∨ q := by
  cases b with
  | true => exact h
  | false => exact .inl h
theorem orB_or {b : Bool} {p q : Prop} (h : orB b p q) : p ∨ q := by
  cases b with
  | true => exact h
  | false => exact .inr h
def vseq (P : Program) (cx : Ctx) (env : Env) : List Oper → Nat → List RE → List (List (Nat × Bool)) → List AB → List (Nat × AB) → (List RE → List AB → List (Nat × AB) → Prop) → Prop
  | [], _, re, _, L, s, K => K re L s
  | o :: rest, i, re, dead, L, s, K => match skipB re dead o && okw cx.nt re o with
    | true => fG (gsOf re o.guard) fun gs => fO o.dst fun d => fN (i + 1) fun i1 => vseq P cx env rest i1 (⟨i, d, gs, .undef⟩ :: re) dead L s K
    | false => match okop cx.nt re o with
      | true => fG (gsOf re o.guard) fun gs => match isEff o.op with
        | true => orB (isCallV o.op) (vop P cx (sg re gs) (rho cx.G env re) L s o.op fun v new => fAV 100 v fun v => fApp L new fun L => fO o.dst fun d => fN (i + 1) fun i1 => vseq P cx env rest i1 (⟨i, d, gs, v⟩ :: re) dead L s K)
          (match gs with
            | [] => orC (isCallV o.op) (veff P cx (rho cx.G env re) L s o.op fun v L' s' => fAV 100 v fun v => fABs L' fun L' => fSt s' fun s' => fO o.dst fun d => fN (i + 1) fun i1 => vseq P cx env rest i1 (⟨i, d, [], v⟩ :: re) dead L' s' K)
              (EJ P cx.G o (rho cx.G env re) L s fun v L' s' => fAV 100 v fun v => fABs L' fun L' => fSt s' fun s' => fO o.dst fun d => fN (i + 1) fun i1 => vseq P cx env rest i1 (⟨i, d, [], v⟩ :: re) dead L' s' K)
            | g :: gr => (HG re (g :: gr) → veff P cx (rho cx.G env re) L s o.op fun v L' s' => fAV 100 v fun v => fABs L' fun L' => fSt s' fun s' => fO o.dst fun d => fN (i + 1) fun i1 => vseq P cx env rest i1 (⟨i, d, g :: gr, v⟩ :: re) dead L' s' K) ∧
                (¬ HG re (g :: gr) → fO o.dst fun d => fN (i + 1) fun i1 => vseq P cx env rest i1 (⟨i, d, g :: gr, .undef⟩ :: re) ((g :: gr) :: dead) L s K))
        | false => vop P cx (sg re gs) (rho cx.G env re) L s o.op fun v new => fAV 100 v fun v => fApp L new fun L => fO o.dst fun d => fN (i + 1) fun i1 => vseq P cx env rest i1 (⟨i, d, gs, v⟩ :: re) dead L s K
      | false => False

/-- What is known of the frame between two operations of the tail. -/
structure SI (cx : Ctx) (env : Env) (its : List It) (a0 : Act) (L : List AB) (s : List (Nat × AB)) (a : Act) (w : World) (M : Mp) (F U : Nat → Prop) : Prop where
  st : St M F U L s w
  gl : Glob cx.G F w
  slot : ∀ (i : Nat) (it : It), its[i]? = some it → ∀ d, it.o.dst = some d → (HG (reat its i) (gsAt its i it) → RV M F w it.v (slotv a d)) ∧ (¬ HG (reat its i) (gsAt its i it) → slotv a d = Go.undef)
  env : ∀ t, (∀ (i : Nat) (it : It), its[i]? = some it → it.o.dst ≠ some t) → RV M F w (look env t) (slotv a t)
  size : a.tmps.size = cx.nt
  defers : a.defers = a0.defers

section
variable {P : Program} {cx : Ctx} {env : Env} {its : List It} {a0 a : Act} {L : List AB} {s : List (Nat × AB)} {w : World} {M : Mp} {F U : Nat → Prop}

theorem si_operand (hok : ∀ (i : Nat) (it : It), its[i]? = some it → okw cx.nt (reat its i) it.o = true) (hI : SI cx env its a0 L s a w M F U) {x : Operand} {C : List (Nat × Bool)} (hC : HG (reat its its.length) C) (hu : us (reat its its.length) C x = true) :
    RV M F w (rho cx.G env (reat its its.length) x) (a.eval x) := by
  cases x with
  | const v => exact RV.cst v
  | func f => exact .fn f [] [] rfl (fun j x v hj _ => by simp at hj)
  | global g =>
    simp only [rho]
    cases hg : cx.G g with
    | none => exact .undef _
    | some cs => exact .d (hI.gl g cs hg)
  | tmp t =>
    simp only [rho, us] at hu ⊢
    rw [eval_tmp]
    cases hl : rlook (reat its its.length) t with
    | some e =>
      rw [hl] at hu
      obtain ⟨j, itj, hji, hitj, hdj, rfl, _⟩ := rlook_reat hl
      exact (hI.slot j itj hitj t hdj).1 (HG_move hok hitj (Nat.le_of_lt hji) (Nat.le_refl j) (HG_of_all hu hC))
    | none => exact hI.env t (fun j itj hitj hdj => rlook_none hl j itj (List.getElem?_eq_some_iff.1 hitj).1 hitj hdj)

theorem si_guard {ops : List Oper} (hok : ∀ (i : Nat) (it : It), its[i]? = some it → okw cx.nt (reat its i) it.o = true) (hpre : ∀ (i : Nat) (it : It), its[i]? = some it → ops[i]? = some it.o) (hI : SI cx env its a0 L s a w M F U) {o : Oper} (hg : gok (reat its its.length) o.guard = true) :
    Region.wanted o (yielded ops.toArray a.tmps) = true ↔ HG (reat its its.length) (gsOf (reat its its.length) o.guard) := by
  unfold Region.wanted
  cases hgd : o.guard with
  | none => simp [gsOf, HG]
  | some jp =>
    obtain ⟨j, p⟩ := jp
    rw [hgd] at hg
    simp only [gok] at hg
    cases hf : rfind (reat its its.length) j with
    | none => rw [hf] at hg; cases hg
    | some e =>
      rw [hf] at hg
      simp only at hg
      obtain ⟨itj, hji, hitj, he⟩ := rfind_reat hf
      subst he
      simp only at hg
      split at hg
      · rename_i b hv
        obtain ⟨t, ht⟩ := Option.isSome_iff_exists.1 hg
        have htn : t < a.tmps.size := by rw [hI.size]; exact (okw_dst (hok j itj hitj) ht).1
        simp only []
        rw [yielded_eq (hpre j itj hitj) ht htn]
        obtain ⟨hs1, hs2⟩ := hI.slot j itj hitj t ht
        have hchain : HG (reat its its.length) (gsOf (reat its its.length) (some (j, p))) ↔ b = p ∧ HG (reat its j) (gsAt its j itj) := by
          rw [HG_all]
          simp only [gsOf, hf, List.mem_cons, forall_eq_or_imp]
          have hlit : lit (reat its its.length) j p ↔ b = p := by unfold lit; rw [hf]; simp only [hv]
          rw [hlit]
          refine and_congr_right fun _ => ?_
          rw [← HG_all]
          exact ⟨fun h => HG_move hok hitj (Nat.le_of_lt hji) (Nat.le_refl j) h, fun h => HG_move hok hitj (Nat.le_refl j) (Nat.le_of_lt hji) h⟩
        rw [hchain]
        by_cases hj : HG (reat its j) (gsAt its j itj)
        · have h1 := hs1 hj
          rw [hv] at h1
          rw [h1.bool_inv]
          simp only [beq_iff_eq, Option.some.injEq]
          exact ⟨fun h => ⟨h, hj⟩, fun h => h.1⟩
        · rw [hs2 hj]
          exact ⟨fun h => (by cases h), fun h => absurd h.2 hj⟩
      · cases hg

theorem si_dead {ops : List Oper} (hok : ∀ (i : Nat) (it : It), its[i]? = some it → okw cx.nt (reat its i) it.o = true) (hpre : ∀ (i : Nat) (it : It), its[i]? = some it → ops[i]? = some it.o) (hI : SI cx env its a0 L s a w M F U) {o : Oper} {dead : List (List (Nat × Bool))}
    (hd : ∀ c ∈ dead, ¬ HG (reat its its.length) c) (ho : okw cx.nt (reat its its.length) o = true) (hs : skipB (reat its its.length) dead o = true) :
    Region.wanted o (yielded ops.toArray a.tmps) ≠ true ∧ ¬ HG (reat its its.length) (gsOf (reat its its.length) o.guard) := by
  have hs : (match o.guard with
    | none => false
    | some (j, p) => match rfind (reat its its.length) j with
      | some e => deadC dead e.gs || (match e.v with
        | .d (.bool _) => deadC dead ((j, p) :: e.gs)
        | _ => false)
      | none => false) = true := by
    unfold skipB at hs
    split at hs
    · cases hs
    · exact hs
  split at hs <;> try cases hs
  rename_i j p hg
  obtain ⟨e, hf, hsl⟩ := okw_guard ho hg
  rw [hf] at hs
  simp only [Bool.or_eq_true] at hs
  have dc : ∀ {gs : List (Nat × Bool)}, deadC dead gs = true → ¬ HG (reat its its.length) gs := fun h hgs => by
    unfold deadC at h
    obtain ⟨c, hc, hall⟩ := List.any_eq_true.1 h
    exact hd c hc (HG_of_all hall hgs)
  have hgs : gsOf (reat its its.length) o.guard = (j, p) :: e.gs := by simp only [hg, gsOf, hf]
  rcases hs with hs | hs
  · have hne := dc hs
    refine ⟨?_, fun h => hne ?_⟩
    · obtain ⟨itj, hji, hitj, he⟩ := rfind_reat hf
      subst he
      obtain ⟨t, ht⟩ := Option.isSome_iff_exists.1 hsl
      have htn : t < a.tmps.size := by rw [hI.size]; exact (okw_dst (hok j itj hitj) ht).1
      unfold Region.wanted
      rw [hg]
      simp only
      rw [yielded_eq (hpre j itj hitj) ht htn]
      have hj : ¬ HG (reat its j) (gsAt its j itj) := fun h => hne (HG_move hok hitj (Nat.le_refl j) (Nat.le_of_lt hji) h)
      rw [(hI.slot j itj hitj t ht).2 hj]
      simp [Go.undef]
    · rw [hgs, HG_all] at h
      rw [HG_all]
      exact fun l hl => h l (by simp [hl])
  · split at hs <;> try cases hs
    rename_i b hv
    have hne : ¬ HG (reat its its.length) (gsOf (reat its its.length) o.guard) := by rw [hgs]; exact dc hs
    refine ⟨fun hw => hne ((si_guard (ops := ops) hok hpre hI ?_).1 hw), hne⟩
    unfold gok
    rw [hg]
    simp only [hf, hv]
    exact hsl

theorem si_opn (hok : ∀ (i : Nat) (it : It), its[i]? = some it → okw cx.nt (reat its i) it.o = true) (hI : SI cx env its a0 L s a w M F U) {o : Oper} (hu : usall (reat its its.length) (gsOf (reat its its.length) o.guard) o.op = true)
    (hC : HG (reat its its.length) (gsOf (reat its its.length) o.guard)) : Opn o.op (rho cx.G env (reat its its.length)) M F w a := by
  unfold Opn
  split
  · rename_i c x y hop
    rw [hop] at hu
    simp only [usall, Bool.and_eq_true] at hu
    obtain ⟨⟨hu1, hu2⟩, hu3⟩ := hu
    refine ⟨si_operand hok hI hC hu1, fun p hp => ?_⟩
    have key : ∀ (q : Bool) (z : Operand), p = q → usp (reat its its.length) (gsOf (reat its its.length) o.guard) c q z = true → RV M F w (rho cx.G env (reat its its.length) z) (a.eval z) := by
      intro q z hpq hus
      cases z with
      | const v => exact si_operand hok hI hC rfl
      | func f => exact si_operand hok hI hC rfl
      | global g => exact si_operand hok hI hC rfl
      | tmp t =>
        simp only [usp] at hus
        cases hl : rlook (reat its its.length) t with
        | none => exact si_operand hok hI hC (by simp [us, hl])
        | some e =>
          rw [hl] at hus
          simp only at hus
          cases c with
          | tmp tc =>
            simp only at hus
            cases hlc : rlook (reat its its.length) tc with
            | none =>
              rw [hlc] at hus
              exact si_operand hok hI hC (by simp only [us, hl]; exact hus)
            | some ec =>
              rw [hlc] at hus
              simp only at hus
              have hC2 : HG (reat its its.length) ((ec.idx, q) :: gsOf (reat its its.length) o.guard) := by
                rw [HG_all]
                intro l hl'
                rcases List.mem_cons.1 hl' with rfl | hl'
                · obtain ⟨jc, itc, hjc, hitc, hdc, hec, _⟩ := rlook_reat hlc
                  subst hec
                  unfold lit
                  rw [reat_at hjc hitc]
                  simp only [rho, hlc] at hp
                  simp only [hp]
                  exact hpq
                · exact HG_all.1 hC l hl'
              exact si_operand hok hI hC2 (by simp only [us, hl]; exact hus)
          | const v => exact si_operand hok hI hC (by simp only [us, hl]; exact hus)
          | func f => exact si_operand hok hI hC (by simp only [us, hl]; exact hus)
          | global g => exact si_operand hok hI hC (by simp only [us, hl]; exact hus)
    exact ⟨fun h => key true x h hu2, fun h => key false y h hu3⟩
  · rename_i hop
    intro x hx
    refine si_operand hok hI hC ?_
    have : o.op.operands.toList.all (us (reat its its.length) (gsOf (reat its its.length) o.guard)) = true := by
      revert hu
      unfold usall
      split
      · rename_i c x y h; exact absurd h (hop c x y)
      · exact fun h => h
    exact List.all_eq_true.1 this x hx
end
end Go.Pv
/- The telling of code, of a function. -/
namespace Go.Pv
open Go.RowKit

/-- Where a call began. -/
structure Z where
  w0 : World
  g0 : Nat → Option Nat
  F0 : Nat → Prop
  U0 : Nat → Prop
  s0 : List (Nat × AB)
structure Sin (z : Z) (M : Mp) (F U : Nat → Prop) (s : List (Nat × AB)) (w : World) : Prop where
  g : ∀ id b, z.g0 id = some b → M.g id = some b
  FF : ∀ b, z.F0 b → F b
  UU : ∀ b, z.U0 b → U b
  Fn : ∀ b, F b → z.F0 b ∨ z.w0.heap.size ≤ b ∨ LiveG z.g0 z.s0 b
  ext : Ext z.U0 z.w0 w
  ll : ∀ k b, M.l k = some b → z.w0.heap.size ≤ b
  lg : ∀ id ab b, (id, ab) ∈ s → ab ≠ .dead → M.g id = some b → z.w0.heap.size ≤ b ∨ LiveG z.g0 z.s0 b
  ids : ∀ id ab, (id, ab) ∈ s → (∃ ab0, (id, ab0) ∈ z.s0) ∨ z.g0 id = none

theorem Sin.eff {z : Z} {M M' : Mp} {F U F' U' : Nat → Prop} {s s' : List (Nat × AB)} {w w' : World} {L' : List AB} {v : AV} {val : Value} (h : Sin z M F U s w) (e : Eff M F U s w L' s' v val M' F' U' w') : Sin z M' F' U' s' w' := by
  have hsz := h.ext.size
  have hl : ∀ b, LiveG M.g s b → z.w0.heap.size ≤ b ∨ LiveG z.g0 z.s0 b := fun b ⟨id, ab, h1, h2, h3⟩ => h.lg id ab b h1 h2 h3
  refine ⟨fun id b hb => e.le (.g id) b (h.g id b hb), fun b hb => e.FF b (h.FF b hb), fun b hb => e.UU b (h.UU b hb), fun b hb => ?_, h.ext.trans e.ext h.UU, fun k b hb => ?_, fun id ab b h1 h2 h3 => ?_, fun id ab h1 => ?_⟩
  · rcases e.Fn b hb with q | q | q | ⟨k, q⟩
    · exact h.Fn b q
    · exact .inr (.inl (by omega))
    · exact .inr (hl b q)
    · exact .inr (.inl (h.ll k b q))
  · rcases e.ll k b hb with q | ⟨k', q⟩
    · omega
    · exact h.ll k' b q
  · rcases e.lg id ab b h1 h2 h3 with q | q | ⟨k, q⟩
    · exact .inl (by omega)
    · exact hl b q
    · exact .inl (h.ll k b q)
  · rcases e.ids id ab h1 with ⟨ab0, q⟩ | q
    · exact h.ids id ab0 q
    · cases hg : z.g0 id with
      | none => exact .inr rfl
      | some b => rw [h.g id b hg] at q; cases q

def hasSlot : Env → Nat → Bool
  | [], _ => false
  | (s, _) :: r, t => Nat.beq s t || hasSlot r t
/-- What lives on behind a region. -/
def envOf (keep : List Nat) : List RE → Env → Env
  | [], env => env
  | e :: r, env => match e.slot with
    | none => envOf keep r env
    | some d => match memN d keep with
      | true => (d, match e.gs with
        | [] => e.v
        | _ :: _ => .undef) :: envOf keep r env
      | false => match hasSlot env d with
        | true => (d, .undef) :: envOf keep r env
        | false => envOf keep r env
theorem look_none {env : Env} {t : Nat} (h : hasSlot env t = false) : look env t = .undef := by
  induction env with
  | nil => rfl
  | cons x r ih =>
    obtain ⟨s, v⟩ := x
    simp only [hasSlot, Bool.or_eq_false_iff] at h
    simp only [look, h.1]
    exact ih h.2
theorem look_skip {keep : List Nat} {env : Env} {t : Nat} (hk : memN t keep = false) (he : hasSlot env t = false) : ∀ re : List RE, look (envOf keep re env) t = .undef
  | [] => look_none he
  | e :: r => by
    have ih := look_skip hk he r
    simp only [envOf]
    split
    · exact ih
    · rename_i d hd
      split
      · rename_i hm
        simp only [look]
        split
        · rename_i hb
          have := beq_t hb
          subst this
          rw [hk] at hm
          cases hm
        · exact ih
      · split
        · rename_i hh
          simp only [look]
          split
          · rename_i hb
            have := beq_t hb
            subst this
            exact absurd hh (by rw [he]; simp)
          · exact ih
        · exact ih
theorem envOf_rv {keep : List Nat} {env : Env} {M : Mp} {F : Nat → Prop} {w : World} {t : Nat} {v : Value} : ∀ (re : List RE), (∀ e, rlook re t = some e → e.gs = [] → RV M F w e.v v) → (rlook re t = none → RV M F w (look env t) v) → RV M F w (look (envOf keep re env) t) v
  | [], _, h2 => h2 rfl
  | e :: r, h1, h2 => by
    cases hs : e.slot with
    | none =>
      have hr : rlook (e :: r) t = rlook r t := by simp only [rlook, hs]
      simp only [envOf, hs]
      exact envOf_rv r (fun e' h => h1 e' (by rw [hr]; exact h)) (fun h => h2 (by rw [hr]; exact h))
    | some d =>
      cases hb : Nat.beq d t with
      | true =>
        have := beq_t hb
        subst this
        have hr : rlook (e :: r) d = some e := by simp only [rlook, hs, hb]
        simp only [envOf, hs]
        split
        · simp only [look, hb]
          split
          · rename_i hg; exact h1 e hr hg
          · exact .undef _
        · rename_i hm
          split
          · simp only [look, hb]; exact .undef _
          · rename_i hh
            rw [look_skip hm hh]
            exact .undef _
      | false =>
        have hr : rlook (e :: r) t = rlook r t := by simp only [rlook, hs, hb]
        have ih := envOf_rv (keep := keep) (env := env) r (fun e' h => h1 e' (by rw [hr]; exact h)) (fun h => h2 (by rw [hr]; exact h))
        simp only [envOf, hs]
        split
        · simp only [look, hb]; exact ih
        · split
          · simp only [look, hb]; exact ih
          · exact ih

/-- What is known between two statements. -/
structure CS (cx : Ctx) (M : Mp) (F U : Nat → Prop) (L : List AB) (s : List (Nat × AB)) (w : World) (env : Env) (a : Act) : Prop where
  st : St M F U L s w
  gl : Glob cx.G F w
  env : ∀ t, RV M F w (look env t) (slotv a t)
  size : a.tmps.size = cx.nt
  defers : a.defers = []

def QK (cx : Ctx) (z : Z) (K : Exit → Env → List AB → List (Nat × AB) → Prop) : Exit → Act → World → Prop := fun e a w => ∃ env L s M F U, K e env L s ∧ CS cx M F U L s w env a ∧ Sin z M F U s w

section
variable {P : Program} {cx : Ctx} {env : Env} {its : List It} {a0 a : Act} {L : List AB} {s : List (Nat × AB)} {w : World} {M : Mp} {F U : Nat → Prop} {z : Z}

theorem its_snoc {its : List It} {it : It} {i : Nat} {it' : It} (h : (its ++ [it])[i]? = some it') : its[i]? = some it' ∧ i < its.length ∨ i = its.length ∧ it' = it := by
  rcases Nat.lt_or_ge i its.length with hi | hi
  · rw [List.getElem?_append_left hi] at h
    exact .inl ⟨h, hi⟩
  · have : i = its.length := by
      have := (List.getElem?_eq_some_iff.1 h).1
      simp at this
      omega
    subst this
    simp at h
    exact .inr ⟨rfl, h.symm⟩

/-- One more operation is over. -/
theorem si_put (hI : SI cx env its a0 L s a w M F U) {o : Oper} (ho : okw cx.nt (reat its its.length) o = true) {v : AV} {val : Value} {M' : Mp} {F' U' : Nat → Prop} {w' : World} {L' : List AB} {s' : List (Nat × AB)} {new : List AB}
    (hle : M.Le M') (hFF : ∀ b, F b → F' b) (hX : Ext U w w') (hst : St M' F' U' L' s' w')
    (h1 : HG (reat its its.length) (gsOf (reat its its.length) o.guard) → RV M' F' w' v val) (h2 : ¬ HG (reat its its.length) (gsOf (reat its its.length) o.guard) → val = Go.undef) :
    SI cx env (its ++ [⟨o, v, new⟩]) a0 L' s' (a.put o.dst val) w' M' F' U' := by
  have hdlt : ∀ d, o.dst = some d → d < a.tmps.size := fun d hd => by rw [hI.size]; exact (okw_dst ho hd).1
  refine ⟨hst, hI.gl.mono hFF hI.st.FU hX, fun i it hit d hd => ?_, fun t ht => ?_, by rw [size_put]; exact hI.size, by rw [defers_put]; exact hI.defers⟩
  · rw [slotv_put hdlt]
    unfold gsAt
    rcases its_snoc hit with ⟨hi, hlt⟩ | ⟨rfl, rfl⟩
    · rw [reat_app (by omega), if_neg (fun h => rlook_none (okw_dst ho h).2 i it hlt hi hd)]
      obtain ⟨q1, q2⟩ := hI.slot i it hi d hd
      exact ⟨fun h => (q1 h).mono hle hFF hI.st.FU hX, q2⟩
    · rw [reat_app (Nat.le_refl _), if_pos hd]
      exact ⟨h1, h2⟩
  · rw [slotv_put hdlt, if_neg (fun h => ht its.length ⟨o, v, new⟩ (by simp) h)]
    exact (hI.env t (fun i it hit => ht i it (by rw [List.getElem?_append_left (List.getElem?_eq_some_iff.1 hit).1]; exact hit))).mono hle hFF hI.st.FU hX

theorem grew_eff {new : List AB} {v : AV} {val : Value} {M' : Mp} {F' U' : Nat → Prop} {w' : World} (hS : St M F U L s w) (h : Grew M F U w L s new v val M' F' U' w') : Eff M F U s w (L ++ new) s v val M' F' U' w' := by
  refine ⟨h.le, h.FF, h.UU, h.ext.mono (fun b hb => hS.Ult b hb), h.st, h.rv, fun b hb => ?_, fun k b hb => ?_, fun id ab b h1 h2 h3 => ?_, fun id ab h1 => .inl ⟨ab, h1⟩⟩
  · rcases h.Fn b hb with q | q
    · exact .inl q
    · exact .inr (.inl q)
  · rcases Nat.lt_or_ge k L.length with q | q
    · rw [h.old k q] at hb; exact .inr ⟨k, hb⟩
    · exact .inl (h.fresh k b q hb)
  · obtain ⟨b', hb'⟩ := hS.tot id ab h1
    have := h.le (.g id) b' hb'
    simp only [Mp.at_] at this
    rw [this] at h3
    cases h3
    exact .inr (.inl ⟨id, ab, h1, h2, hb'⟩)

/-- What is known not to be met stays so. -/
theorem dead_app {its : List It} {it : It} {c : List (Nat × Bool)} {i : Nat} {iti : It} (hi : its[i]? = some iti) (hc : c = gsAt its i iti) (h : ¬ HG (reat its i) c) :
    (its ++ [it])[i]? = some iti ∧ c = gsAt (its ++ [it]) i iti ∧ ¬ HG (reat (its ++ [it]) i) c := by
  have hlt := (List.getElem?_eq_some_iff.1 hi).1
  refine ⟨by rw [List.getElem?_append_left hlt]; exact hi, ?_, ?_⟩
  · rw [hc]; unfold gsAt; rw [reat_app (by omega)]
  · rw [reat_app (by omega)]; exact h

/-- The tail. -/
theorem vseq_sound (hT : TabOK P cx.T) {ops : List Oper} {K : List RE → List AB → List (Nat × AB) → Prop} {Q : Exit → Act → World → Prop} : ∀ (rest : List Oper) (its : List It) (dead : List (List (Nat × Bool))) (L : List AB) (s : List (Nat × AB)) (a : Act) (w : World) (M : Mp) (F U : Nat → Prop),
    (∀ (i : Nat) (it : It), its[i]? = some it → okw cx.nt (reat its i) it.o = true) → (∀ c ∈ dead, ∃ i iti, its[i]? = some iti ∧ c = gsAt its i iti ∧ ¬ HG (reat its i) c) → ops = its.map (·.o) ++ rest → SI cx env its a0 L s a w M F U → Sin z M F U s w →
    vseq P cx env rest its.length (reat its its.length) dead L s K →
    (∀ its' L' s' a' w' M' F' U', (∀ (i : Nat) (it : It), its'[i]? = some it → okw cx.nt (reat its' i) it.o = true) → ops = its'.map (·.o) → K (reat its' its'.length) L' s' → SI cx env its' a0 L' s' a' w' M' F' U' → Sin z M' F' U' s' w' → Q .normal a' w') →
    wpOps P ops.toArray Q (List.range' its.length rest.length) a w
  | [], its, dead, L, s, a, w, M, F, U, hok, _, hops, hI, hZ, h, hQ => by
    simp only [List.length_nil, List.range'_zero, wpOps]
    exact hQ its L s a w M F U hok (by simpa using hops) (by simpa [vseq] using h) hI hZ
  | o :: rest, its, dead, L, s, a, w, M, F, U, hok, hdead, hops, hI, hZ, h, hQ => by
    simp only [vseq, fG_eq, fAV_eq, fApp_eq, fABs_eq, fSt_eq, fO_eq, fN_eq] at h
    have hoi : ops[its.length]? = some o := by rw [hops]; simp
    have hpre : ∀ (i : Nat) (it : It), its[i]? = some it → ops[i]? = some it.o := fun i it hit => by
      rw [hops, List.getElem?_append_left (by simpa using (List.getElem?_eq_some_iff.1 hit).1), List.getElem?_map, hit]; rfl
    have hdead' : ∀ c ∈ dead, ¬ HG (reat its its.length) c := fun c hc => by
      obtain ⟨i, iti, h1, h2, h3⟩ := hdead c hc
      intro hg
      rw [h2] at hg h3
      exact h3 (HG_move hok h1 (Nat.le_of_lt (List.getElem?_eq_some_iff.1 h1).1) (Nat.le_refl i) hg)
    rw [List.length_cons, List.range'_succ, wpOps_cons]
    -- whatever the operation comes to, the rest goes on
    have go : ∀ (v : AV) (new : List AB) (gs : List (Nat × Bool)) (dead2 : List (List (Nat × Bool))) (L' : List AB) (s' : List (Nat × AB)) (val : Value) (M' : Mp) (F' U' : Nat → Prop) (w' : World), okw cx.nt (reat its its.length) o = true → gs = gsOf (reat its its.length) o.guard →
        (dead2 = dead ∨ (dead2 = gs :: dead ∧ ¬ HG (reat its its.length) gs)) →
        vseq P cx env rest (its.length + 1) (⟨its.length, o.dst, gs, v⟩ :: reat its its.length) dead2 L' s' K →
        M.Le M' → (∀ b, F b → F' b) → Ext U w w' → St M' F' U' L' s' w' → Sin z M' F' U' s' w' →
        (HG (reat its its.length) (gsOf (reat its its.length) o.guard) → RV M' F' w' v val) → (¬ HG (reat its its.length) (gsOf (reat its its.length) o.guard) → val = Go.undef) →
        wpOps P ops.toArray Q (List.range' (its.length + 1) rest.length) (a.put o.dst val) w' := by
      intro v new gs dead2 L' s' val M' F' U' w' hoko hgs hd2 hv hle hFF hX hst hZ' h1 h2
      subst hgs
      have hlast : (its ++ [(⟨o, v, new⟩ : It)])[its.length]? = some (⟨o, v, new⟩ : It) := by simp
      have hre : reat (its ++ [(⟨o, v, new⟩ : It)]) (its ++ [(⟨o, v, new⟩ : It)]).length = ⟨its.length, o.dst, gsOf (reat its its.length) o.guard, v⟩ :: reat its its.length := by
        rw [List.length_append, List.length_singleton, reat, hlast]
        simp only [reat_app (its2 := [(⟨o, v, new⟩ : It)]) (Nat.le_refl its.length)]
      have := vseq_sound (ops := ops) hT rest (its ++ [(⟨o, v, new⟩ : It)]) dead2 L' s' (a.put o.dst val) w' M' F' U' (fun i it hit => ?_) (fun c hc => ?_) (by rw [hops]; simp) (si_put hI hoko hle hFF hX hst h1 h2) hZ' (by rw [hre]; simpa using hv) hQ
      · simpa using this
      · rcases its_snoc hit with ⟨hi, hlt⟩ | ⟨rfl, rfl⟩
        · rw [reat_app (by omega)]; exact hok i it hi
        · rw [reat_app (Nat.le_refl _)]; exact hoko
      · have old : c ∈ dead → ∃ i iti, (its ++ [(⟨o, v, new⟩ : It)])[i]? = some iti ∧ c = gsAt (its ++ [(⟨o, v, new⟩ : It)]) i iti ∧ ¬ HG (reat (its ++ [(⟨o, v, new⟩ : It)]) i) c := fun hc => by
          obtain ⟨i, iti, k1, k2, k3⟩ := hdead c hc
          exact ⟨i, iti, dead_app k1 k2 k3⟩
        rcases hd2 with rfl | ⟨rfl, hn⟩
        · exact old hc
        · rcases List.mem_cons.1 hc with rfl | hc
          · exact ⟨its.length, _, hlast, by unfold gsAt; rw [reat_app (Nat.le_refl _)], by rw [reat_app (Nat.le_refl _)]; exact hn⟩
          · exact old hc
    unfold wpOp
    simp only [List.getElem?_toArray, hoi]
    split at h
    · -- not met, as is known
      rename_i hsk
      simp only [Bool.and_eq_true] at hsk
      obtain ⟨hw, hn⟩ := si_dead (ops := ops) hok hpre hI hdead' hsk.2 hsk.1
      rw [if_neg hw]
      exact go .undef [] _ dead L s Go.undef M F U w hsk.2 rfl (.inl rfl) h (.refl M) (fun _ h => h) (.refl _ _) hI.st hZ (fun h => absurd h hn) (fun _ => rfl)
    split at h <;> try exact h.elim
    rename_i hoko
    have hokw := okop_okw hoko
    have hgd := si_guard (ops := ops) hok hpre hI (okop_gok hoko)
    have pure_ : (vop P cx (sg (reat its its.length) (gsOf (reat its its.length) o.guard)) (rho cx.G env (reat its its.length)) L s o.op fun v new => vseq P cx env rest (its.length + 1) (⟨its.length, o.dst, gsOf (reat its its.length) o.guard, v⟩ :: reat its its.length) dead (L ++ new) s K) →
        (if Region.wanted o (yielded ops.toArray a.tmps) = true then o.wp P a w (fun a' w' => wpOps P ops.toArray Q (List.range' (its.length + 1) rest.length) a' w') Q ∨ (o.asks P a w ∧ LetsOut Q) else wpOps P ops.toArray Q (List.range' (its.length + 1) rest.length) (a.put o.dst Go.undef) w) := by
      intro h
      obtain ⟨v, new, hpj, h⟩ := vop_sound hT (H := HG (reat its its.length) (gsOf (reat its its.length) o.guard)) (fun p hp hg => sg_im p hp hg) h
      by_cases hw : Region.wanted o (yielded ops.toArray a.tmps) = true
      · rw [if_pos hw]
        left
        have hg := hgd.1 hw
        refine wp_noQ (Oper.wp_mono ?_ (hpj hg M F U w a hI.st hI.gl (si_opn hok hI (okop_us hoko) hg)))
        rintro a' w' ⟨val, M', F', U', rfl, hG⟩
        have e := grew_eff hI.st hG
        exact go v new _ dead (L ++ new) s val M' F' U' w' hokw rfl (.inl rfl) h e.le e.FF e.ext e.st (hZ.eff e) (fun _ => e.rv) (fun h => absurd hg h)
      · rw [if_neg hw]
        have hg : ¬ HG (reat its its.length) (gsOf (reat its its.length) o.guard) := fun h => hw (hgd.2 h)
        -- the places that it would have laid are nobody's
        have hst' : St M F U (L ++ new) s w := by
          have hh : ∀ r ab b, Here (L ++ new) s r ab → M.at_ r = some b → Here L s r ab := fun r ab b hr hm => by
            cases r with
            | g id => exact hr
            | l n =>
              rcases Nat.lt_or_ge n L.length with q | q
              · simp only [Here] at hr ⊢
                rwa [List.getElem?_append_left q] at hr
              · rw [show M.at_ (.l n) = M.l n from rfl, hI.st.dom n q] at hm; cases hm
          exact ⟨fun r ab b hr hm => hI.st.rb r ab b (hh r ab b hr hm) hm, fun r r' a1 a2 b h1 h2 d1 d2 m1 m2 => hI.st.inj r r' a1 a2 b (hh _ _ _ h1 m1) (hh _ _ _ h2 m2) d1 d2 m1 m2, fun r ab b hr hd hm => hI.st.nU r ab b (hh r ab b hr hm) hd hm, hI.st.nd, hI.st.FU, hI.st.Ult, fun k hk => hI.st.dom k (by simp at hk; omega), hI.st.tot, hI.st.gdom⟩
        exact go v new _ dead (L ++ new) s Go.undef M F U w hokw rfl (.inl rfl) h (.refl M) (fun _ h => h) (.refl _ _) hst' hZ (fun h => absurd h hg) (fun _ => rfl)
    split at h
    · rename_i heff
      rcases orB_or h with h | h
      · exact pure_ h
      have eff_ : ∀ (gs : List (Nat × Bool)), gs = gsOf (reat its its.length) o.guard → Region.wanted o (yielded ops.toArray a.tmps) = true →
          EJ P cx.G o (rho cx.G env (reat its its.length)) L s (fun v L' s' => vseq P cx env rest (its.length + 1) (⟨its.length, o.dst, gs, v⟩ :: reat its its.length) dead L' s' K) →
          o.wp P a w (fun a' w' => wpOps P ops.toArray Q (List.range' (its.length + 1) rest.length) a' w') Q := by
        intro gs hgs hw hE
        have hopn := si_opn hok hI (okop_us hoko) (hgd.1 hw)
        have hxs : ∀ x ∈ o.op.operands.toList, RV M F w (rho cx.G env (reat its its.length) x) (a.eval x) := by
          unfold Opn at hopn
          split at hopn
          · rename_i c x y hop
            rw [hop] at heff
            simp [isEff] at heff
          · exact hopn
        refine wp_noQ (Oper.wp_mono ?_ (hE M F U w a hI.st hI.gl hxs))
        rintro a' w' ⟨v, L', s', val, M', F', U', hv, rfl, e⟩
        exact go v [] gs dead L' s' val M' F' U' w' hokw hgs (.inl rfl) hv e.le e.FF e.ext e.st (hZ.eff e) (fun _ => e.rv) (fun h => absurd (hgd.1 hw) h)
      split at h
      · rename_i hgs
        have hw : Region.wanted o (yielded ops.toArray a.tmps) = true := hgd.2 (by rw [hgs]; exact trivial)
        rw [if_pos hw]
        left
        exact eff_ [] hgs.symm hw ((orC_or h).elim (fun h => veff_sound hT h) id)
      · rename_i g gr hgs
        by_cases hw : Region.wanted o (yielded ops.toArray a.tmps) = true
        · rw [if_pos hw]
          left
          exact eff_ (g :: gr) hgs.symm hw (veff_sound hT (h.1 (by rw [← hgs]; exact hgd.1 hw)))
        · rw [if_neg hw]
          have hn : ¬ HG (reat its its.length) (g :: gr) := fun h => hw (hgd.2 (by rw [hgs]; exact h))
          exact go .undef [] (g :: gr) ((g :: gr) :: dead) L s Go.undef M F U w hokw hgs.symm (.inr ⟨rfl, hn⟩) (h.2 hn) (.refl M) (fun _ h => h) (.refl _ _) hI.st hZ (fun h => by rw [hgs] at h; exact absurd h hn) (fun _ => rfl)
    · exact pure_ h

end
end Go.Pv
/- The telling of code. -/
namespace Go.Pv
open Go.RowKit

def hAV (x : AV) (K : AV → Prop) : Prop := match x with
  | .d x => K (.d x)
  | .agg cs => K (.agg cs)
  | .tup cs => K (.tup cs)
  | .ref r off => K (.ref r off)
  | .slc r sz off len cap => K (.slc r sz off len cap)
  | .el r sz i j => K (.el r sz i j)
  | .mp r => K (.mp r)
  | .fn f cs => K (.fn f cs)
  | .ifc t x => K (.ifc t x)
  | .undef => K .undef
theorem hAV_eq (x : AV) (K : AV → Prop) : hAV x K = K x := by cases x <;> rfl
def envK (keep : List Nat) : List RE → Env → (Env → Prop) → Prop
  | [], env, K => K env
  | e :: r, env, K => match e.slot with
    | none => envK keep r env K
    | some d => match memN d keep with
      | true => match e.gs with
        | [] => hAV e.v fun v => envK keep r env fun en => K ((d, v) :: en)
        | _ :: _ => envK keep r env fun en => K ((d, .undef) :: en)
      | false => match hasSlot env d with
        | true => envK keep r env fun en => K ((d, .undef) :: en)
        | false => envK keep r env K
theorem envK_eq (keep : List Nat) : ∀ (re : List RE) (env : Env) (K : Env → Prop), envK keep re env K = K (envOf keep re env)
  | [], _, _ => rfl
  | e :: r, env, K => by
    cases h1 : e.slot with
    | none => simp only [envK, envOf, h1, envK_eq keep r]
    | some d =>
      cases h2 : memN d keep with
      | true => cases h3 : e.gs <;> simp only [envK, envOf, h1, h2, h3, hAV_eq, envK_eq keep r]
      | false => cases h3 : hasSlot env d <;> simp only [envK, envOf, h1, h2, h3, envK_eq keep r]

def vreg (P : Program) (cx : Ctx) (ops : List Oper) (draw : Bool) (env : Env) (L : List AB) (s : List (Nat × AB)) (K : Env → List AB → List (Nat × AB) → Prop) : Prop :=
  ∃ k, (Nat.ble k ops.length && ordOK ops && (!draw || tailOK ops k)) = true ∧ vpre P cx env s (ops.take k) 0 [] L fun re L' => vseq P cx env (ops.drop k) k re [] L' s fun re L'' s' => envK cx.keep re env fun env => K env L'' s'

/-- What code comes to, told of what is known ahead of it. -/
structure VC (P : Program) (cx : Ctx) (c : Code) (env : Env) (L : List AB) (s : List (Nat × AB)) (K : Exit → Env → List AB → List (Nat × AB) → Prop) : Prop where
  h : ∀ (z : Z) (a : Act) (w : World) (M : Mp) (F U : Nat → Prop), CS cx M F U L s w env a → Sin z M F U s w → c.wp P (QK cx z K) a w

section
variable {P : Program} {cx : Ctx} {c x y : Code} {env : Env} {L : List AB} {s : List (Nat × AB)} {K K' : Exit → Env → List AB → List (Nat × AB) → Prop}

theorem QK.mono {z : Z} {e : Exit} {a : Act} {w : World} (h : QK cx z K e a w) (hK : ∀ env L s, K e env L s → K' e env L s) : QK cx z K' e a w := by
  obtain ⟨env, L, s, M, F, U, h1, h2⟩ := h
  exact ⟨env, L, s, M, F, U, hK _ _ _ h1, h2⟩
theorem VC.mono (h : VC P cx c env L s K) (hK : ∀ e env L s, K e env L s → K' e env L s) : VC P cx c env L s K' :=
  .mk fun z a w M F U hC hZ => wp_mono (h.h z a w M F U hC hZ) fun _ _ _ hq => hq.mono (hK _)
theorem VC.skip (h : K .normal env L s) : VC P cx .skip env L s K := .mk fun _ _ _ M F U hC hZ => wp_skip ⟨env, L, s, M, F, U, h, hC, hZ⟩
theorem VC.label {l : Nat} (h : K .normal env L s) : VC P cx (.label l) env L s K := .mk fun _ _ _ M F U hC hZ => wp_label ⟨env, L, s, M, F, U, h, hC, hZ⟩
theorem VC.exit {id : Nat} (h : K (.exit id) env L s) : VC P cx (.exit id) env L s K := .mk fun _ _ _ M F U hC hZ => wp_exit ⟨env, L, s, M, F, U, h, hC, hZ⟩
theorem VC.ret (h : K .ret env L s) : VC P cx .ret env L s K := .mk fun _ _ _ M F U hC hZ => wp_ret ⟨env, L, s, M, F, U, h, hC, hZ⟩

/-- Behind a part, by how it was left. -/
def KThen (J : Env → List AB → List (Nat × AB) → Prop) (K : Exit → Env → List AB → List (Nat × AB) → Prop) : Exit → Env → List AB → List (Nat × AB) → Prop
  | .normal => J
  | e => K e
theorem VC.seq (h : VC P cx x env L s (KThen (fun env L s => VC P cx y env L s K) K)) : VC P cx (.seq x y) env L s K := .mk fun z a w M F U hC hZ => wp_seq (wp_mono (h.h z a w M F U hC hZ) fun e a w hq => by
  obtain ⟨env, L, s, M, F, U, h1, h2, h3⟩ := hq
  cases e with
  | normal => exact h1.h z a w M F U h2 h3
  | _ => exact ⟨env, L, s, M, F, U, h1, h2, h3⟩)
def KBlock (id : Nat) (K : Exit → Env → List AB → List (Nat × AB) → Prop) : Exit → Env → List AB → List (Nat × AB) → Prop
  | .exit id' => match Nat.beq id' id with
    | true => K .normal
    | false => K (.exit id')
  | e => K e
theorem VC.block {id : Nat} (h : VC P cx c env L s (KBlock id K)) : VC P cx (.block id c) env L s K := .mk fun z a w M F U hC hZ => wp_block (wp_mono (h.h z a w M F U hC hZ) fun e a w hq => by
  obtain ⟨env, L, s, M, F, U, h1, h2⟩ := hq
  cases e with
  | exit id' =>
    simp only [Exit.inBlock]
    simp only [KBlock] at h1
    cases hb : Nat.beq id' id with
    | true =>
      rw [hb] at h1
      rw [if_pos (beq_t hb)]
      exact ⟨env, L, s, M, F, U, h1, h2⟩
    | false =>
      rw [hb] at h1
      rw [if_neg (fun h => by subst h; simp at hb)]
      exact ⟨env, L, s, M, F, U, h1, h2⟩
  | _ => exact ⟨env, L, s, M, F, U, h1, h2⟩)
theorem CS.operand {M : Mp} {F U : Nat → Prop} {w : World} {a : Act} (h : CS cx M F U L s w env a) (x : Operand) : RV M F w (rho cx.G env [] x) (a.eval x) := by
  cases x with
  | const v => exact RV.cst v
  | func f => exact .fn f [] [] rfl (fun j x v hj _ => by simp at hj)
  | global g =>
    simp only [rho]
    cases hg : cx.G g with
    | none => exact .undef _
    | some cs => exact .d (h.gl g cs hg)
  | tmp t => exact h.env t
theorem VC.cond {c : Operand} (h : match rho cx.G env [] c with
    | .d (.bool b) => (b = true → VC P cx x env L s K) ∧ (b = false → VC P cx y env L s K)
    | _ => False) : VC P cx (.cond c x y) env L s K := by
  constructor
  intro z a w M F U hC hZ
  split at h
  · rename_i b hb
    have hx := hC.operand c
    rw [hb] at hx
    refine wp_cond_split hx.bool_inv (fun e => (h.1 e).h z a w M F U hC hZ) (fun e => (h.2 e).h z a w M F U hC hZ)
  · exact h.elim
/-- In rounds: I tells what is known ahead of a round, by a count that goes down. -/
theorem VC.loop (I : Nat → Env → List AB → List (Nat × AB) → Prop) {n : Nat} (h0 : I n env L s)
    (step : ∀ n env L s, I n env L s → VC P cx c env L s (KThen (fun env' L' s' => ∃ m, m < n ∧ I m env' L' s') K)) : VC P cx (.loop c) env L s K := by
  constructor
  intro z a w M F U hC hZ
  have key : ∀ (N n : Nat) (env : Env) (L : List AB) (s : List (Nat × AB)) (a : Act) (w : World) (M : Mp) (F U : Nat → Prop), n < N → I n env L s → CS cx M F U L s w env a → Sin z M F U s w → Code.rounds P c (QK cx z K) N a w := by
    intro N
    induction N with
    | zero => intro n _ _ _ _ _ _ _ _ h; omega
    | succ N ih =>
      intro n env L s a w M F U hn hI hC hZ
      rw [rounds_succ]
      refine wp_mono ((step n env L s hI).h z a w M F U hC hZ) fun e a w hq => ?_
      obtain ⟨env, L, s, M, F, U, h1, h2, h3⟩ := hq
      cases e with
      | normal =>
        obtain ⟨m, hm, hI⟩ := h1
        exact ih m env L s a w M F U (by omega) hI h2 h3
      | _ => exact ⟨env, L, s, M, F, U, h1, h2, h3⟩
  exact wp_loop_rounds (n + 1) (key (n + 1) n env L s a w M F U (by omega) h0 hC hZ)

/-- The same world, told otherwise. -/
def Ghost (cx : Ctx) (env : Env) (L : List AB) (s : List (Nat × AB)) (env' : Env) (L' : List AB) (s' : List (Nat × AB)) : Prop :=
  ∀ (z : Z) (a : Act) (w : World) (M : Mp) (F U : Nat → Prop), CS cx M F U L s w env a → Sin z M F U s w → ∃ M' F' U', CS cx M' F' U' L' s' w env' a ∧ Sin z M' F' U' s' w
theorem Ghost.refl : Ghost cx env L s env L s := fun _ _ _ M F U h1 h2 => ⟨M, F, U, h1, h2⟩
theorem Ghost.trans {e1 e2 e3 : Env} {L1 L2 L3 : List AB} {s1 s2 s3 : List (Nat × AB)} (h : Ghost cx e1 L1 s1 e2 L2 s2) (k : Ghost cx e2 L2 s2 e3 L3 s3) : Ghost cx e1 L1 s1 e3 L3 s3 := fun z a w M F U h1 h2 => by
  obtain ⟨M', F', U', h3, h4⟩ := h z a w M F U h1 h2
  exact k z a w M' F' U' h3 h4
theorem VC.ghost {env' : Env} {L' : List AB} {s' : List (Nat × AB)} (hg : Ghost cx env L s env' L' s') (h : VC P cx c env' L' s' K) : VC P cx c env L s K := .mk fun z a w M F U h1 h2 => by
  obtain ⟨M', F', U', h3, h4⟩ := hg z a w M F U h1 h2
  exact h.h z a w M' F' U' h3 h4
/-- Told otherwise behind it. -/
theorem VC.gpost (h : VC P cx c env L s K) (hK : ∀ e env L s, K e env L s → ∃ env' L' s', Ghost cx env L s env' L' s' ∧ K' e env' L' s') : VC P cx c env L s K' := .mk fun z a w M F U hC hZ => wp_mono (h.h z a w M F U hC hZ) fun e a w hq => by
  obtain ⟨env, L, s, M, F, U, h1, h2, h3⟩ := hq
  obtain ⟨env', L', s', hg, hk⟩ := hK _ _ _ _ h1
  obtain ⟨M', F', U', h4, h5⟩ := hg z a w M F U h2 h3
  exact ⟨env', L', s', M', F', U', hk, h4, h5⟩

theorem VC.region (hT : TabOK P cx.T) (hm : P.follows .mixedOrders = true) {id : Nat} {ops : Array Oper} {draw : Bool} (h : vreg P cx ops.toList draw env L s (K .normal)) : VC P cx (.region id ops draw) env L s K := by
  constructor
  intro z a w M F U hC hZ
  obtain ⟨k, hk, h⟩ := h
  simp only [Bool.and_eq_true, Bool.or_eq_true, Bool.not_eq_true'] at hk
  obtain ⟨⟨hk1, hk2⟩, hk3⟩ := hk
  have hk1 := Nat.le_of_ble_eq_true hk1
  obtain ⟨its, h1, h2, h3⟩ := vpre_sound hT (ops.toList.take k) [] (⟨fun i it h => by simp at h, fun i it h => by simp at h⟩) (by simpa [reat, Lat] using h)
  simp only [List.nil_append] at h2 h3
  have hlen : its.length = k := by
    have := congrArg List.length h1
    simp at this
    simp at hk1
    omega
  have hall : ops.toList = its.map (·.o) ++ ops.toList.drop k := by rw [h1, List.take_append_drop]
  have hpre : ∀ (i : Nat) (it : It), its[i]? = some it → ops.toList[i]? = some it.o := fun i it hit => by
    rw [hall, List.getElem?_append_left (by simpa using (List.getElem?_eq_some_iff.1 hit).1), List.getElem?_map, hit]; rfl
  refine wp_mono (Q := fun e a w => e = .normal ∧ QK cx z K e a w) (wp_region_pre (fun _ _ _ h => h.1) (ops := ops.toList) (its := its) (s := s) (G := cx.G) (nt := cx.nt) (env := env) (L0 := L) (M0 := M) (F0 := F) (U0 := U) ⟨hpre, h2.ok, h2.pj, hk2⟩ hC.st hC.gl hC.env hC.size (by rw [hlen]; exact hk1) hm (fun hd => by rw [hlen]; exact hk3.resolve_left (by rw [hd]; simp)) ?_) (fun _ _ _ h => h.2)
  intro listed a' w' M' F' U' hl hI
  have hX : Ext U w w' := hI.ext.mono hC.st.Ult
  have hsz := hZ.ext.size
  have hget : ∀ id ab b, (id, ab) ∈ s → M'.g id = some b → M.g id = some b := fun id ab b h hb => by
    obtain ⟨b', hb'⟩ := hC.st.tot id ab h
    have := hI.le (.g id) b' hb'
    simp only [Mp.at_] at this
    rw [this] at hb
    cases hb
    exact hb'
  have hZ' : Sin z M' F' U' s w' := by
    refine ⟨fun id b hb => hI.le (.g id) b (hZ.g id b hb), fun b hb => hI.FF b (hZ.FF b hb), fun b hb => hI.UU b (hZ.UU b hb), fun b hb => ?_, hZ.ext.trans hX hZ.UU, fun k b hb => ?_, fun id ab b h1 h2 h3 => hZ.lg id ab b h1 h2 (hget id ab b h1 h3), hZ.ids⟩
    · rcases hI.Fn b hb with q | q
      · exact hZ.Fn b q
      · exact .inr (.inl (by omega))
    · rcases hI.fr k b hb with q | q
      · exact hZ.ll k b q
      · omega
  have hS : SI cx env its a (Lat its L its.length) s a' w' M' F' U' := by
    refine ⟨hI.st, hI.gl, fun i it hit d hd => ?_, fun t ht => ?_, hI.size, hI.defers⟩
    · obtain ⟨q1, q2⟩ := hI.slot i it hit (hl i (List.getElem?_eq_some_iff.1 hit).1) d hd
      exact ⟨fun h => (q1 h).mono (Mp.cut_le _ _) (fun _ h => h) hI.st.FU (.refl _ _), q2⟩
    · rw [hI.other t (fun i it hit _ => ht i it hit)]
      exact (hC.env t).mono hI.le hI.FF hC.st.FU hX
  rw [← hlen] at h3
  have hfin : (ops.toList.length - its.length) = (ops.toList.drop its.length).length := by simp
  rw [hfin]
  rw [← hlen] at hall
  refine vseq_sound (a0 := a) (ops := ops.toList) (K := fun re L'' s' => envK cx.keep re env fun env => K .normal env L'' s') hT (ops.toList.drop its.length) its [] _ s a' w' M' F' U' (fun i it h => okop_okw (h2.ok i it h)) (fun c hc => by cases hc) hall hS hZ' h3 ?_
  intro its' L' s' a'' w'' M'' F'' U'' hok _ hK hS hZ
  rw [envK_eq] at hK
  refine ⟨rfl, _, L', s', M'', F'', U'', hK, ⟨hS.st, hS.gl, fun t => envOf_rv _ (fun e he hg => ?_) (fun hn => hS.env t fun i it hit => rlook_none hn i it (List.getElem?_eq_some_iff.1 hit).1 hit), hS.size, hS.defers.trans hC.defers⟩, hZ⟩
  obtain ⟨j, itj, hji, hitj, hdj, rfl, _⟩ := rlook_reat he
  exact (hS.slot j itj hitj t hdj).1 (by rw [show gsAt its' j itj = [] from hg]; exact trivial)
end
end Go.Pv
/- A function's contract, of its body's telling. -/
namespace Go.Pv
open Go.RowKit

def argEnv : Nat → List AV → Env
  | _, [] => []
  | k, v :: r => (k, v) :: argEnv (k + 1) r
theorem look_argEnv : ∀ (args : List AV) (k t : Nat), look (argEnv k args) t = if k ≤ t then (args[t - k]?).getD .undef else .undef
  | [], k, t => by simp [argEnv, look]
  | v :: r, k, t => by
    simp only [argEnv, look]
    split
    · rename_i h
      have := beq_t h
      subst this
      simp
    · rename_i h
      have hne := beq_f h
      rw [look_argEnv r (k + 1) t]
      by_cases hk : k ≤ t
      · rw [if_pos hk, if_pos (by omega), show t - k = (t - (k + 1)) + 1 by omega]
        simp
      · rw [if_neg hk, if_neg (by omega)]

/-- What a result variable holds. -/
def vres1 (T : Nat → Option TI) (env : Env) (L : List AB) : ResultVar → Option AV
  | .tmp t => some (look env t)
  | .cell a t => match T t with
    | some ti => match look env a with
      | .ref (.l k) off => match L[k]? with
        | some (.cells cs) => match Nat.beq (takeN cs off ti.size).length ti.size with
          | true => ofCells ti.agg (takeN cs off ti.size)
          | false => none
        | _ => none
      | _ => none
    | none => none
def vresL (T : Nat → Option TI) (env : Env) (L : List AB) : List ResultVar → Option (List AV)
  | [] => some []
  | r :: rs => match vres1 T env L r with
    | some v => match vresL T env L rs with
      | some vs => some (v :: vs)
      | none => none
    | none => none
def vres (T : Nat → Option TI) (env : Env) (L : List AB) : List ResultVar → Option AV
  | [r] => vres1 T env L r
  | rs => match vresL T env L rs with
    | some vs => some (.tup vs)
    | none => none
def VR (T : Nat → Option TI) (rs : List ResultVar) (R : AV → List (Nat × AB) → Prop) (env : Env) (L : List AB) (s : List (Nat × AB)) : Prop := ∃ v, vres T env L rs = some v ∧ v.cl = true ∧ R v s
def KRet (T : Nat → Option TI) (rs : List ResultVar) (R : AV → List (Nat × AB) → Prop) : Exit → Env → List AB → List (Nat × AB) → Prop
  | .normal => VR T rs R
  | .ret => VR T rs R
  | _ => fun _ _ _ => False

section
variable {P : Program} {cx : Ctx} {env : Env} {L : List AB} {s : List (Nat × AB)} {M : Mp} {F U : Nat → Prop} {w : World}

theorem load_cells_rv (hT : TabOK P cx.T) (hS : St M F U L s w) {t : TypeId} {ti : TI} (ht : cx.T t = some ti) {r : Rf} {off : Nat} {cs : List AV} {v : AV} {u : Value} (hu : RV M F w (.ref r off) u)
    (hr : Here L s r (.cells cs)) (hlen : (takeN cs off ti.size).length = ti.size) (hv : ofCells ti.agg (takeN cs off ti.size) = some v) :
    ∃ b val, u = .pointer (some ⟨b, off, none⟩) ∧ (loadVar t ⟨b, off, none⟩).run P w = .ok val w ∧ RV M F w v val := by
  cases hu with
  | ref _ _ b hm =>
    obtain ⟨arr, tt, hb, hsz, hc⟩ := hS.rb r _ b hr hm
    have hget : ∀ j, j < ti.size → ∃ y, cs[off + j]? = some y ∧ (takeN cs off ti.size)[j]? = some y := by
      intro j hj
      have hj' : j < (takeN cs off ti.size).length := by omega
      exact ⟨_, get_takeN (List.getElem?_eq_getElem hj'), List.getElem?_eq_getElem hj'⟩
    have harr : ∀ j, j < ti.size → ∃ u, arr[off + j]? = some u := by
      intro j hj
      obtain ⟨y, h2, _⟩ := hget j hj
      have := (List.getElem?_eq_some_iff.1 h2).1
      exact ⟨_, Array.getElem?_eq_getElem (by omega)⟩
    have hus : ∀ j, ((List.range ti.size).map fun j => (arr[off + j]?).getD Go.undef)[j]? = if j < ti.size then arr[off + j]? else none := by
      intro j
      by_cases hj : j < ti.size
      · obtain ⟨u, hu⟩ := harr j hj
        simp [hj, hu]
      · simp [hj]
    obtain ⟨val, hrun, hv1, hv2⟩ := run_loadVar_cells (P := P) (w := w) (hT := hT) ht ⟨b, off, none⟩ ((List.range ti.size).map fun j => (arr[off + j]?).getD Go.undef) (by simp) (fun j u hu => by
      rw [hus] at hu
      split at hu
      · rw [add_plain]; simp [World.cell?, hb, hu]
      · cases hu)
    refine ⟨b, val, rfl, hrun, RV.ofCells hv hv1 hv2 (by simp [hlen]) (fun j u hu => ?_) (fun j y u hy hu => ?_)⟩
    · rw [hus] at hu
      split at hu
      · rename_i hj
        obtain ⟨y, h2, _⟩ := hget j hj
        exact (hc _ y u h2 hu).1
      · cases hu
    · rw [hus] at hu
      split at hu
      · exact ((hc _ y u (get_takeN hy) hu).2).mono (M.sub_le r) (fun _ h => h) hS.FU (.refl _ _)
      · cases hu

theorem vres1_run (hT : TabOK P cx.T) {a : Act} (hC : CS cx M F U L s w env a) {r : ResultVar} {v : AV} (h : vres1 cx.T env L r = some v) :
    ∃ val, (match r with
      | .tmp t => pure (a.tmps.getD t Go.undef)
      | .cell x t => do loadVar t (← asAddr (a.tmps.getD x Go.undef)) : Sem Value).run P w = .ok val w ∧ RV M F w v val := by
  cases r with
  | tmp t =>
    cases h
    exact ⟨_, rfl, hC.env t⟩
  | cell x t =>
    simp only [vres1] at h
    split at h <;> try cases h
    rename_i ti ht
    split at h <;> try cases h
    rename_i k off hl
    split at h <;> try cases h
    rename_i cs hk
    split at h <;> try cases h
    rename_i hb
    have hx := hC.env x
    rw [hl] at hx
    obtain ⟨b, val, hu, hrun, hrv⟩ := load_cells_rv hT hC.st ht hx (r := .l k) hk (beq_t hb) h
    refine ⟨val, ?_, hrv⟩
    have hu : a.tmps.getD x Go.undef = .pointer (some ⟨b, off, none⟩) := hu
    simp only [hu, asAddr, Sem.run_bind, Sem.run_pure, Result.andThen_ok, hrun]

theorem vresL_run (hT : TabOK P cx.T) {a : Act} (hC : CS cx M F U L s w env a) : ∀ {rs : List ResultVar} {vs : List AV}, vresL cx.T env L rs = some vs →
    ∃ vals, (rs.mapM (fun
      | .tmp t => pure (a.tmps.getD t Go.undef)
      | .cell x t => do loadVar t (← asAddr (a.tmps.getD x Go.undef)) : ResultVar → Sem Value)).run P w = .ok vals w ∧ vals.length = vs.length ∧ ∀ (j : Nat) (x : AV) (v : Value), vs[j]? = some x → vals[j]? = some v → RV M F w x v
  | [], vs, h => by
    simp only [vresL, Option.some.injEq] at h
    subst h
    exact ⟨[], by simp [Sem.run_pure], rfl, fun j x v h => by simp at h⟩
  | r :: rs, vs, h => by
    simp only [vresL] at h
    split at h <;> try cases h
    rename_i v hv
    split at h <;> try cases h
    rename_i vs' hvs
    obtain ⟨val, h1, h2⟩ := vres1_run hT hC hv
    obtain ⟨vals, h3, h4, h5⟩ := vresL_run hT hC hvs
    refine ⟨val :: vals, ?_, by simp [h4], fun j x u hx hu => ?_⟩
    · rw [List.mapM_cons]
      simp only [Sem.run_bind]
      cases r <;> simp only [h1, h3, Result.andThen_ok, Sem.run_pure] at * <;> simp_all [Sem.run_pure]
    · cases j with
      | zero => simp at hx hu; subst hx; subst hu; exact h2
      | succ j => exact h5 j x u (by simpa using hx) (by simpa using hu)

theorem vres_run (hT : TabOK P cx.T) {fn : Func} {a : Act} (hC : CS cx M F U L s w env a) {v : AV} (h : vres cx.T env L fn.results.toList = some v) :
    ∃ val, (results fn a.tmps).run P w = .ok val w ∧ RV M F w v val := by
  have key : ∀ {vs : List AV}, vresL cx.T env L fn.results.toList = some vs → ∃ vals : List Value, (results fn a.tmps).run P w = .ok (if h : vals.toArray.size = 1 then vals.toArray[0] else .tuple vals.toArray) w ∧ vals.length = vs.length ∧ ∀ (j : Nat) (x : AV) (v : Value), vs[j]? = some x → vals[j]? = some v → RV M F w x v := by
    intro vs h
    obtain ⟨vals, h1, h2, h3⟩ := vresL_run hT hC h
    refine ⟨vals, ?_, h2, h3⟩
    unfold results
    rw [← Array.toArray_toList (xs := fn.results)]
    rw [List.mapM_toArray]
    simp only [Sem.run_bind, Sem.run_pure, map_eq_pure_bind]
    erw [h1]
    rfl
  unfold vres at h
  split at h
  · rename_i r hr
    obtain ⟨vals, h1, h2, h3⟩ := key (vs := [v]) (by rw [hr]; simp [vresL, h])
    obtain ⟨u, rfl⟩ : ∃ u, vals = [u] := by
      match vals, h2 with
      | [u], _ => exact ⟨u, rfl⟩
    exact ⟨u, by simpa using h1, h3 0 v u rfl rfl⟩
  · rename_i hr
    split at h <;> try cases h
    rename_i vs hvs
    obtain ⟨vals, h1, h2, h3⟩ := key hvs
    have hne : vals.length ≠ 1 := by
      intro e
      have hl : vs.length = 1 := by omega
      have : fn.results.toList.length = 1 := by
        have key2 : ∀ {rs : List ResultVar} {vs : List AV}, vresL cx.T env L rs = some vs → rs.length = vs.length := by
          intro rs
          induction rs with
          | nil => intro vs h; simp only [vresL, Option.some.injEq] at h; subst h; rfl
          | cons r rs ih =>
            intro vs h
            simp only [vresL] at h
            split at h <;> try cases h
            split at h <;> try cases h
            rename_i h'
            simp [ih h']
        rw [key2 hvs, hl]
      match hm : fn.results.toList, this with
      | [r], _ => exact hr r hm
    refine ⟨.tuple vals.toArray, by rw [h1]; simp [hne], .tup vs vals h2 h3⟩

theorem Contract.of_vc (hT : TabOK P cx.T) {f : Nat} {fn : Func} {c : Code} {args : List AV} {R : AV → List (Nat × AB) → Prop} (hf : P.funcs[f]? = some fn) (hb : fn.body = some c) (hce : Callee P f) (hnt : cx.nt = fn.ntmps) (hle : args.length ≤ fn.ntmps)
    (h : VC P cx c (argEnv 0 args) [] s (KRet cx.T fn.results.toList R)) : Contract P cx.G f args s R := by
  refine ⟨hce, fun g F U w vals hS hG hl hv => calls_of_wp hf hb ?_⟩
  have hC : CS cx ⟨fun _ => none, g⟩ F U [] s w (argEnv 0 args) { tmps := vals.toArray ++ Array.replicate (fn.ntmps - vals.toArray.size) Go.undef, defers := [] } := by
    refine ⟨hS, hG, fun t => ?_, by simp [hnt]; omega, rfl⟩
    rw [look_argEnv, if_pos (Nat.zero_le t)]
    rcases Nat.lt_or_ge t args.length with ht | ht
    · rw [Nat.sub_zero, List.getElem?_eq_getElem ht]
      refine hv t _ _ (List.getElem?_eq_getElem ht) ?_
      unfold slotv
      simp only [Array.getD_eq_getD_getElem?]
      rw [Array.getElem?_append_left (by simp; omega)]
      simp [List.getElem?_eq_getElem (show t < vals.length by omega)]
    · rw [Nat.sub_zero, List.getElem?_eq_none ht]
      exact .undef _
  refine wp_mono (h.h ⟨w, g, F, U, s⟩ _ w ⟨fun _ => none, g⟩ F U hC ⟨fun _ _ h => h, fun _ h => h, fun _ h => h, fun b hb => .inl hb, .refl _ _, fun k b h => by simp at h, fun id ab b h1 h2 h3 => .inr ⟨id, ab, h1, h2, h3⟩, fun id ab h => .inl ⟨ab, h⟩⟩) ?_
  intro e a' w' hq
  obtain ⟨env', L', s', M', F', U', hK, hC', hZ'⟩ := hq
  have fin : VR cx.T fn.results.toList R env' L' s' → a'.defers = [] ∧ ∃ v, (results fn a'.tmps).run P w' = .ok v w' ∧ ∃ v' res s' g' F' U', (Ending.returned v) = .returned v' ∧ R res s' ∧ (∀ id b, g id = some b → g' id = some b) ∧ (∀ id ab, (id, ab) ∈ s' → (∃ ab0, (id, ab0) ∈ s) ∨ g id = none) ∧
      (∀ b, F b → F' b) ∧ (∀ b, U b → U' b) ∧ (∀ b, F' b → F b ∨ w.heap.size ≤ b ∨ LiveG g s b) ∧ Ext U w w' ∧ St ⟨fun _ => none, g'⟩ F' U' [] s' w' ∧ RV ⟨fun _ => none, g'⟩ F' w' res v' := by
    rintro ⟨v, hv, hcl, hR⟩
    obtain ⟨val, h1, h2⟩ := vres_run hT hC' hv
    refine ⟨hC'.defers, val, h1, val, v, s', M'.g, F', U', rfl, hR, hZ'.g, hZ'.ids, hZ'.FF, hZ'.UU, hZ'.Fn, hZ'.ext, ?_, h2.closed hcl⟩
    have hS := hC'.st
    refine ⟨fun r ab b hr hm => ?_, fun r r' a1 a2 b g1 g2 d1 d2 m1 m2 => ?_, fun r ab b g1 d1 m1 => ?_, hS.nd, hS.FU, hS.Ult, fun _ _ => rfl, hS.tot, hS.gdom⟩
    · cases r with
      | l k => simp [Here] at hr
      | g id => exact hS.rb (.g id) ab b hr hm
    · cases r with
      | l k => simp [Here] at g1
      | g id =>
        cases r' with
        | l k => simp [Here] at g2
        | g id' => exact hS.inj (.g id) (.g id') a1 a2 b g1 g2 d1 d2 m1 m2
    · cases r with
      | l k => simp [Here] at g1
      | g id => exact hS.nU (.g id) ab b g1 d1 m1
  cases e with
  | normal => exact fin hK
  | ret => exact fin hK
  | _ => exact hK.elim

/-! ### What the call itself made, and nobody wants -/
def kphi (ks : List Nat) : Rf → Option Rf
  | .g i => match memB i ks with
    | true => some (.g i)
    | false => none
  | .l _ => none
def keepS (ks : List Nat) : List (Nat × AB) → Option (List (Nat × AB))
  | [] => some []
  | (i, ab) :: r => match memB i ks with
    | true => match ab.rn (kphi ks) with
      | some ab => match keepS ks r with
        | some r => some ((i, ab) :: r)
        | none => none
      | none => none
    | false => keepS ks r
def subB : List Nat → List Nat → Bool
  | [], _ => true
  | x :: r, ks => memB x ks && subB r ks
theorem subB_mem : ∀ {l ks : List Nat} {x : Nat}, subB l ks = true → x ∈ l → memB x ks = true
  | [], _, _, _, h => by simp at h
  | y :: r, ks, x, h, hx => by
    simp only [subB, Bool.and_eq_true] at h
    rcases List.mem_cons.1 hx with rfl | hx
    · exact h.1
    · exact subB_mem h.2 hx
theorem keepS_spec {ks : List Nat} : ∀ {s s' : List (Nat × AB)}, keepS ks s = some s' → (s'.map (·.1)).Sublist (s.map (·.1)) ∧ (∀ id ab', (id, ab') ∈ s' → memB id ks = true ∧ ∃ ab, (id, ab) ∈ s ∧ ab.rn (kphi ks) = some ab') ∧ ∀ id ab, (id, ab) ∈ s → memB id ks = true → ∃ ab', (id, ab') ∈ s'
  | [], s', h => by
    simp only [keepS, Option.some.injEq] at h
    subst h
    simp
  | (i, ab) :: r, s', h => by
    simp only [keepS] at h
    split at h
    · rename_i hk
      split at h <;> try cases h
      rename_i ab' hab
      split at h <;> cases h
      rename_i r' hr
      obtain ⟨h1, h2, h3⟩ := keepS_spec hr
      refine ⟨by simpa using h1.cons_cons i, fun id x hx => ?_, fun id x hx hm => ?_⟩
      · rcases List.mem_cons.1 hx with e | hx
        · cases e; exact ⟨hk, ab, by simp, hab⟩
        · obtain ⟨q1, y, q2, q3⟩ := h2 id x hx
          exact ⟨q1, y, List.mem_cons_of_mem _ q2, q3⟩
      · rcases List.mem_cons.1 hx with e | hx
        · cases e; exact ⟨ab', by simp⟩
        · obtain ⟨y, hy⟩ := h3 id x hx hm
          exact ⟨y, List.mem_cons_of_mem _ hy⟩
    · rename_i hk
      obtain ⟨h1, h2, h3⟩ := keepS_spec h
      refine ⟨by simpa using h1.cons i, fun id x hx => ?_, fun id x hx hm => ?_⟩
      · obtain ⟨q1, y, q2, q3⟩ := h2 id x hx
        exact ⟨q1, y, List.mem_cons_of_mem _ q2, q3⟩
      · rcases List.mem_cons.1 hx with e | hx
        · cases e; rw [hk] at hm; cases hm
        · exact h3 id x hx hm
def VRD (T : Nat → Option TI) (rs : List ResultVar) (ids : List Nat) (R : AV → List (Nat × AB) → Prop) (env : Env) (L : List AB) (s : List (Nat × AB)) : Prop := ∃ v, vres T env L rs = some v ∧ ∃ ks, subB ids ks = true ∧ match keepS ks s with
  | some s' => match v.rn (kphi ks) with
    | some v' => R v' s'
    | none => False
  | none => False
def KRetD (T : Nat → Option TI) (rs : List ResultVar) (ids : List Nat) (R : AV → List (Nat × AB) → Prop) : Exit → Env → List AB → List (Nat × AB) → Prop
  | .normal => VRD T rs ids R
  | .ret => VRD T rs ids R
  | _ => fun _ _ _ => False

theorem Contract.of_vcD (hT : TabOK P cx.T) {f : Nat} {fn : Func} {c : Code} {args : List AV} {R : AV → List (Nat × AB) → Prop} (hf : P.funcs[f]? = some fn) (hb : fn.body = some c) (hce : Callee P f) (hnt : cx.nt = fn.ntmps) (hle : args.length ≤ fn.ntmps)
    (h : VC P cx c (argEnv 0 args) [] s (KRetD cx.T fn.results.toList (s.map (·.1)) R)) : Contract P cx.G f args s R := by
  refine ⟨hce, fun g F U w vals hS hG hl hv => calls_of_wp hf hb ?_⟩
  have hC : CS cx ⟨fun _ => none, g⟩ F U [] s w (argEnv 0 args) { tmps := vals.toArray ++ Array.replicate (fn.ntmps - vals.toArray.size) Go.undef, defers := [] } := by
    refine ⟨hS, hG, fun t => ?_, by simp [hnt]; omega, rfl⟩
    rw [look_argEnv, if_pos (Nat.zero_le t)]
    rcases Nat.lt_or_ge t args.length with ht | ht
    · rw [Nat.sub_zero, List.getElem?_eq_getElem ht]
      refine hv t _ _ (List.getElem?_eq_getElem ht) ?_
      unfold slotv
      simp only [Array.getD_eq_getD_getElem?]
      rw [Array.getElem?_append_left (by simp; omega)]
      simp [List.getElem?_eq_getElem (show t < vals.length by omega)]
    · rw [Nat.sub_zero, List.getElem?_eq_none ht]
      exact .undef _
  refine wp_mono (h.h ⟨w, g, F, U, s⟩ _ w ⟨fun _ => none, g⟩ F U hC ⟨fun _ _ h => h, fun _ h => h, fun _ h => h, fun b hb => .inl hb, .refl _ _, fun k b h => by simp at h, fun id ab b h1 h2 h3 => .inr ⟨id, ab, h1, h2, h3⟩, fun id ab h => .inl ⟨ab, h⟩⟩) ?_
  intro e a' w' hq
  obtain ⟨env', L', s', M', F', U', hK, hC', hZ'⟩ := hq
  have fin : VRD cx.T fn.results.toList (s.map (·.1)) R env' L' s' → a'.defers = [] ∧ ∃ v, (results fn a'.tmps).run P w' = .ok v w' ∧ ∃ v' res s' g' F' U', (Ending.returned v) = .returned v' ∧ R res s' ∧ (∀ id b, g id = some b → g' id = some b) ∧ (∀ id ab, (id, ab) ∈ s' → (∃ ab0, (id, ab0) ∈ s) ∨ g id = none) ∧
      (∀ b, F b → F' b) ∧ (∀ b, U b → U' b) ∧ (∀ b, F' b → F b ∨ w.heap.size ≤ b ∨ LiveG g s b) ∧ Ext U w w' ∧ St ⟨fun _ => none, g'⟩ F' U' [] s' w' ∧ RV ⟨fun _ => none, g'⟩ F' w' res v' := by
    rintro ⟨v, hvv, ks, hsub, hR⟩
    split at hR <;> try exact hR.elim
    rename_i s2 hs2
    split at hR <;> try exact hR.elim
    rename_i v2 hv2
    obtain ⟨val, h1, h2⟩ := vres_run hT hC' hvv
    obtain ⟨k1, k2, k3⟩ := keepS_spec hs2
    have hS' := hC'.st
    have hg2 : ∀ id, memB id ks = true → (fun id => match memB id ks with | true => M'.g id | false => none) id = M'.g id := fun id h => by simp only [h]
    have hvia : Mp.Via (kphi ks) M' ⟨fun _ => none, fun id => match memB id ks with | true => M'.g id | false => none⟩ := fun r r' b hr hm => by
      cases r with
      | l k => cases hr
      | g id =>
        simp only [kphi] at hr
        split at hr <;> cases hr
        rename_i hk
        simp only [Mp.at_, hk]
        exact hm
    have hviag : Mp.Via (kphi ks) M'.glo ⟨fun _ => none, fun id => match memB id ks with | true => M'.g id | false => none⟩ := fun r r' b hr hm => hvia r r' b hr (M'.glo_le r b hm)
    refine ⟨hC'.defers, val, h1, val, v2, s2, fun id => match memB id ks with | true => M'.g id | false => none, F', U', rfl, hR, fun id b hb => ?_, fun id ab hab => ?_, hZ'.FF, hZ'.UU, hZ'.Fn, hZ'.ext, ?_, h2.rn hvia hv2⟩
    · have hin : id ∈ s.map (·.1) := Classical.byContradiction fun hn => by
        have : g id = none := hS.gdom id (fun ab hab => hn (List.mem_map.2 ⟨_, hab, rfl⟩))
        rw [this] at hb
        cases hb
      simp only [subB_mem hsub hin]
      exact hZ'.g id b hb
    · obtain ⟨_, ab0, q, _⟩ := k2 id ab hab
      exact hZ'.ids id ab0 q
    · refine ⟨fun r ab b hr hm => ?_, fun r r' a1 a2 b g1 g2 d1 d2 m1 m2 => ?_, fun r ab b g1 d1 m1 => ?_, hS'.nd.sublist k1, hS'.FU, hS'.Ult, fun _ _ => rfl, fun id ab hab => ?_, fun id hid => ?_⟩
      · cases r with
        | l k => simp [Here] at hr
        | g id =>
          obtain ⟨q1, ab0, q2, q3⟩ := k2 id ab hr
          simp only [Mp.at_, q1] at hm
          exact (hS'.rb (.g id) ab0 b q2 hm).rn hviag q3
      · cases r with
        | l k => simp [Here] at g1
        | g id =>
          cases r' with
          | l k => simp [Here] at g2
          | g id' =>
            obtain ⟨q1, b1, q2, q3⟩ := k2 id a1 g1
            obtain ⟨p1, b2, p2, p3⟩ := k2 id' a2 g2
            simp only [Mp.at_, q1] at m1
            simp only [Mp.at_, p1] at m2
            exact hS'.inj (.g id) (.g id') b1 b2 b q2 p2 (fun e => d1 ((AB.rn_dead q3).2 e)) (fun e => d2 ((AB.rn_dead p3).2 e)) m1 m2
      · cases r with
        | l k => simp [Here] at g1
        | g id =>
          obtain ⟨q1, b1, q2, q3⟩ := k2 id ab g1
          simp only [Mp.at_, q1] at m1
          exact hS'.nU (.g id) b1 b q2 (fun e => d1 ((AB.rn_dead q3).2 e)) m1
      · obtain ⟨q1, b1, q2, q3⟩ := k2 id ab hab
        obtain ⟨b, hb⟩ := hS'.tot id b1 q2
        exact ⟨b, by simp only [q1]; exact hb⟩
      · cases hk : memB id ks with
        | false => simp only [hk]
        | true =>
          simp only [hk]
          refine hS'.gdom id fun ab hab => ?_
          obtain ⟨ab', hab'⟩ := k3 id ab hab hk
          exact hid ab' hab'
  cases e with
  | normal => exact fin hK
  | ret => exact fin hK
  | _ => exact hK.elim
end
end Go.Pv
/- The same world told otherwise: places that are wanted no more are dropped, others named anew. -/
namespace Go.Pv
open Go.RowKit

/-- A local place's new name. -/
def lsel (σ : List Nat) : Rf → Option Rf
  | .g i => some (.g i)
  | .l j => match rnK σ j 0 with
    | some k => some (.l k)
    | none => none
/-- What stands behind the new names. -/
def Mp.gather (M : Mp) (σ : List Nat) : Mp := ⟨fun k => match σ[k]? with
  | some j => M.l j
  | none => none, M.g⟩
theorem via_gather (M : Mp) (σ : List Nat) : Mp.Via (lsel σ) M (M.gather σ) := fun r r' b h hm => by
  cases r with
  | g i => cases h; exact hm
  | l j =>
    simp only [lsel] at h
    split at h <;> cases h
    rename_i k hk
    obtain ⟨i, h1, h2⟩ := rnK_some hk
    simp only [Nat.zero_add] at h1
    subst h1
    simp only [Mp.at_, Mp.gather, h2]
    exact hm
def gatherL (σ : List Nat) (L : List AB) : List Nat → Option (List AB)
  | [] => some []
  | j :: r => match L[j]? with
    | some ab => match ab.rn (lsel σ) with
      | some ab => match gatherL σ L r with
        | some r => some (ab :: r)
        | none => none
      | none => none
    | none => none
theorem gatherL_get {σ : List Nat} {L : List AB} : ∀ {τ : List Nat} {L' : List AB}, gatherL σ L τ = some L' → L'.length = τ.length ∧ ∀ (k : Nat) (ab' : AB), L'[k]? = some ab' → ∃ j ab, τ[k]? = some j ∧ L[j]? = some ab ∧ ab.rn (lsel σ) = some ab'
  | [], L', h => by
    simp only [gatherL, Option.some.injEq] at h
    subst h
    exact ⟨rfl, fun k ab h => by simp at h⟩
  | j :: r, L', h => by
    simp only [gatherL] at h
    split at h <;> try cases h
    rename_i ab hab
    split at h <;> try cases h
    rename_i ab' hab'
    split at h <;> cases h
    rename_i r' hr
    obtain ⟨h1, h2⟩ := gatherL_get hr
    refine ⟨by simp [h1], fun k z hz => ?_⟩
    cases k with
    | zero => simp at hz; subst hz; exact ⟨j, ab, rfl, hab, hab'⟩
    | succ k =>
      obtain ⟨j', ab2, q1, q2, q3⟩ := h2 k z (by simpa using hz)
      exact ⟨j', ab2, by simpa using q1, q2, q3⟩
theorem St.gather {M : Mp} {F U : Nat → Prop} {L L' : List AB} {s : List (Nat × AB)} {w : World} {σ : List Nat} (hS : St M F U L s w) (hL : gatherL σ L σ = some L') (hn : nodupB σ = true) : St (M.gather σ) F U L' s w := by
  obtain ⟨hlen, hget⟩ := gatherL_get hL
  have hnd := nodupB_spec hn
  have back : ∀ r ab' b, Here L' s r ab' → (M.gather σ).at_ r = some b → ∃ r0 ab, Here L s r0 ab ∧ M.at_ r0 = some b ∧ (ab' ≠ .dead → ab ≠ .dead) ∧ ((∃ k j, r = .l k ∧ r0 = .l j ∧ σ[k]? = some j ∧ ab.rn (lsel σ) = some ab') ∨ (∃ id, r = .g id ∧ r0 = .g id ∧ ab = ab')) := by
    intro r ab' b hr hm
    cases r with
    | g id => exact ⟨.g id, ab', hr, hm, fun h => h, .inr ⟨id, rfl, rfl, rfl⟩⟩
    | l k =>
      obtain ⟨j, ab, q1, q2, q3⟩ := hget k ab' hr
      refine ⟨.l j, ab, q2, ?_, fun e h => e ((AB.rn_dead q3).2 h), .inl ⟨k, j, rfl, rfl, q1, q3⟩⟩
      simp only [Mp.at_, Mp.gather, q1] at hm
      exact hm
  refine ⟨fun r ab' b hr hm => ?_, fun r r' a1 a2 b h1 h2 d1 d2 m1 m2 => ?_, fun r ab' b hr hd hm => ?_, hS.nd, hS.FU, hS.Ult, fun k hk => ?_, hS.tot, hS.gdom⟩
  · obtain ⟨r0, ab, h1, h2, _, ⟨k, j, rfl, rfl, h5, h6⟩ | ⟨id, rfl, rfl, rfl⟩⟩ := back r ab' b hr hm
    · exact (hS.rb _ ab b h1 h2).rn (via_gather M σ) h6
    · exact hS.rb _ ab b h1 h2
  · obtain ⟨r0, b1, q1, q2, q3, q4⟩ := back r a1 b h1 m1
    obtain ⟨r0', b2, p1, p2, p3, p4⟩ := back r' a2 b h2 m2
    have := hS.inj r0 r0' b1 b2 b q1 p1 (q3 d1) (p3 d2) q2 p2
    subst this
    rcases q4 with ⟨k, j, rfl, rfl, h5, _⟩ | ⟨id, rfl, rfl, _⟩ <;> rcases p4 with ⟨k', j', rfl, e, h5', _⟩ | ⟨id', rfl, e, _⟩ <;> cases e
    · have hk := (List.getElem?_eq_some_iff.1 h5).1
      have := (List.getElem?_inj hk hnd).1 (h5.trans h5'.symm)
      rw [this]
    · rfl
  · obtain ⟨r0, ab, q1, q2, q3, _⟩ := back r ab' b hr hm
    exact hS.nU r0 ab b q1 (q3 hd) q2
  · simp only [Mp.gather]
    rw [List.getElem?_eq_none (by omega)]

/-- The slots that are told on. -/
def tidy (σ : List Nat) (env : Env) : List Nat → Env
  | [] => []
  | t :: r => (t, match (look env t).rn (lsel σ) with
    | some v => v
    | none => .undef) :: tidy σ env r
theorem tidy_rv {M : Mp} {F : Nat → Prop} {w : World} {σ : List Nat} {env : Env} {v : Nat → Value} (h : ∀ t, RV M F w (look env t) (v t)) : ∀ (ts : List Nat) (t : Nat), RV (M.gather σ) F w (look (tidy σ env ts) t) (v t)
  | [], t => .undef _
  | x :: r, t => by
    simp only [tidy, look]
    split
    · rename_i hb
      have := beq_t hb
      subst this
      split
      · rename_i y hy; exact (h x).rn (via_gather M σ) hy
      · exact .undef _
    · exact tidy_rv h r t

theorem Ghost.gather {cx : Ctx} {env : Env} {L L' : List AB} {s : List (Nat × AB)} (σ slots : List Nat) (hL : gatherL σ L σ = some L') (hn : nodupB σ = true) : Ghost cx env L s (tidy σ env slots) L' s := by
  intro z a w M F U hC hZ
  refine ⟨M.gather σ, F, U, ⟨hC.st.gather hL hn, hC.gl, tidy_rv hC.env slots, hC.size, hC.defers⟩, ⟨hZ.g, hZ.FF, hZ.UU, hZ.Fn, hZ.ext, fun k b hb => ?_, hZ.lg, hZ.ids⟩⟩
  simp only [Mp.gather] at hb
  split at hb
  · exact hZ.ll _ b hb
  · cases hb

theorem VC.rounds {P : Program} {cx : Ctx} {c : Code} {env : Env} {L : List AB} {s : List (Nat × AB)} {K : Exit → Env → List AB → List (Nat × AB) → Prop} (I : Nat → Env → List AB → List (Nat × AB) → Prop)
    (h0 : ∃ e2 L2 s2, Ghost cx env L s e2 L2 s2 ∧ ∃ n, I n e2 L2 s2)
    (step : ∀ n env L s, I n env L s → VC P cx c env L s (KThen (fun env' L' s' => ∃ e2 L2 s2, Ghost cx env' L' s' e2 L2 s2 ∧ ∃ m, m < n ∧ I m e2 L2 s2) K)) : VC P cx (.loop c) env L s K := by
  obtain ⟨e2, L2, s2, hg, n, hI⟩ := h0
  refine VC.ghost hg (VC.loop I hI fun n env L s hI => (step n env L s hI).gpost fun e env' L' s' h => ?_)
  cases e with
  | normal => exact h
  | _ => exact ⟨_, _, _, .refl, h⟩
end Go.Pv
/- The telling of code in which every object bears a name: between regions nothing is local. -/
namespace Go.Pv
open Go.RowKit

section
variable {P : Program} {cx : Ctx} {env : Env} {L : List AB} {s s' : List (Nat × AB)} {M M' : Mp} {F U : Nat → Prop} {w : World} {a : Act} {z : Z}

/-- The same memory, its places named anew. -/
theorem St.recast (hS : St M F U L s w) {f : Nat → Rf} (hl : ∀ k, M'.l k = none) (hnd : (s'.map (·.1)).Nodup)
    (src : ∀ id ab', (id, ab') ∈ s' → ∃ ab b, Here L s (f id) ab ∧ (RB (M.sub (f id)) F w b ab → RB M'.glo F w b ab') ∧ (ab' ≠ .dead → ab ≠ .dead) ∧ M.at_ (f id) = some b ∧ M'.g id = some b)
    (inj : ∀ id id', f id = f id' → id ∈ s'.map (·.1) → id' ∈ s'.map (·.1) → id = id') (gdom : ∀ id, (∀ ab, (id, ab) ∉ s') → M'.g id = none) : St M' F U [] s' w := by
  have hmem : ∀ id ab, (id, ab) ∈ s' → id ∈ s'.map (·.1) := fun id ab h => List.mem_map.2 ⟨_, h, rfl⟩
  refine ⟨fun r ab b hr hm => ?_, fun r r' a1 a2 b h1 h2 d1 d2 m1 m2 => ?_, fun r ab b hr hd hm => ?_, hnd, hS.FU, hS.Ult, fun k _ => hl k, fun id ab h => ?_, gdom⟩
  · cases r with
    | l k => simp [Here] at hr
    | g id =>
      obtain ⟨ab0, b0, q1, q2, q5, q3, q4⟩ := src id ab hr
      simp only [Mp.at_, q4, Option.some.injEq] at hm
      subst hm
      exact q2 (hS.rb _ _ _ q1 q3)
  · cases r with
    | l k => simp [Here] at h1
    | g id =>
      cases r' with
      | l k => simp [Here] at h2
      | g id' =>
        obtain ⟨b1, c1, q1, q2, q5, q3, q4⟩ := src id a1 h1
        obtain ⟨b2, c2, p1, p2, p5, p3, p4⟩ := src id' a2 h2
        simp only [Mp.at_, q4, Option.some.injEq] at m1
        simp only [Mp.at_, p4, Option.some.injEq] at m2
        subst m1
        subst m2
        have := hS.inj _ _ b1 b2 _ q1 p1 (q5 d1) (p5 d2) q3 p3
        rw [inj id id' this (hmem _ _ h1) (hmem _ _ h2)]
  · cases r with
    | l k => simp [Here] at hr
    | g id =>
      obtain ⟨b1, c1, q1, q2, q5, q3, q4⟩ := src id ab hr
      simp only [Mp.at_, q4, Option.some.injEq] at hm
      subst hm
      exact hS.nU _ b1 _ q1 (q5 hd) q3
  · obtain ⟨_, b1, _, _, _, _, q4⟩ := src id ab h
    exact ⟨b1, q4⟩
theorem St.rb_rn (hS : St M F U L s w) {φ : Rf → Option Rf} (hφ : Mp.Via φ M M'.glo) {r : Rf} {ab ab' : AB} (h : ab.rn φ = some ab') (b : Nat) : RB (M.sub r) F w b ab → RB M'.glo F w b ab' := fun hb =>
  (hb.mono (M' := M) (M.sub_le _) (fun _ h => h) hS.FU (.refl _ _) (fun _ => rfl)).rn hφ h

/-- Slots, their places named anew. -/
def mapE (φ : Rf → Option Rf) : Env → Env
  | [] => []
  | (t, v) :: r => (t, match v.rn φ with
    | some v => v
    | none => .undef) :: mapE φ r
theorem mapE_rv {φ : Rf → Option Rf} (hφ : Mp.Via φ M M') {v : Nat → Value} : ∀ {env : Env}, (∀ t, RV M F w (look env t) (v t)) → ∀ t, RV M' F w (look (mapE φ env) t) (v t) := by
  have key : ∀ {env : Env} {t : Nat} {u : Value}, RV M F w (look env t) u → RV M' F w (look (mapE φ env) t) u := by
    intro env
    induction env with
    | nil => intro t u _; exact .undef _
    | cons x r ih =>
      obtain ⟨i, y⟩ := x
      intro t u h
      simp only [mapE, look] at h ⊢
      split
      · rename_i hb
        rw [hb] at h
        split
        · rename_i y' hy; exact h.rn hφ hy
        · exact .undef _
      · rename_i hb
        rw [hb] at h
        exact ih h
  exact fun {_} h t => key (h t)

/-- Told of are the first n names alone. -/
def ToldN (n : Nat) (z : Z) : Prop := ∀ id, n ≤ id → z.g0 id = none
def QV (cx : Ctx) (z : Z) (K : Exit → Env → List (Nat × AB) → Prop) : Exit → Act → World → Prop := fun e a w => ∃ env s M F U, K e env s ∧ CS cx M F U [] s w env a ∧ Sin z M F U s w
structure V (P : Program) (cx : Ctx) (n : Nat) (c : Code) (env : Env) (s : List (Nat × AB)) (K : Exit → Env → List (Nat × AB) → Prop) : Prop where
  h : ∀ (z : Z) (a : Act) (w : World) (M : Mp) (F U : Nat → Prop), ToldN n z → CS cx M F U [] s w env a → Sin z M F U s w → c.wp P (QV cx z K) a w
/-- The same world, told otherwise. -/
def GV (cx : Ctx) (n : Nat) (env : Env) (L : List AB) (s : List (Nat × AB)) (env' : Env) (s' : List (Nat × AB)) : Prop :=
  ∀ (z : Z) (a : Act) (w : World) (M : Mp) (F U : Nat → Prop), ToldN n z → CS cx M F U L s w env a → Sin z M F U s w → ∃ M' F' U', CS cx M' F' U' [] s' w env' a ∧ Sin z M' F' U' s' w
theorem GV.refl {n : Nat} : GV cx n env [] s env s := fun _ _ _ M F U _ h1 h2 => ⟨M, F, U, h1, h2⟩
theorem GV.trans {n : Nat} {e1 e2 e3 : Env} {s1 s2 s3 : List (Nat × AB)} (h : GV cx n e1 L s1 e2 s2) (k : GV cx n e2 [] s2 e3 s3) : GV cx n e1 L s1 e3 s3 := fun z a w M F U h0 h1 h2 => by
  obtain ⟨M', F', U', h3, h4⟩ := h z a w M F U h0 h1 h2
  exact k z a w M' F' U' h0 h3 h4

variable {n : Nat} {c x y : Code} {K K' : Exit → Env → List (Nat × AB) → Prop}
theorem QV.mono {e : Exit} (h : QV cx z K e a w) (hK : ∀ env s, K e env s → K' e env s) : QV cx z K' e a w := by
  obtain ⟨env, s, M, F, U, h1, h2⟩ := h
  exact ⟨env, s, M, F, U, hK _ _ h1, h2⟩
theorem V.mono (h : V P cx n c env s K) (hK : ∀ e env s, K e env s → K' e env s) : V P cx n c env s K' :=
  .mk fun z a w M F U h0 hC hZ => wp_mono (h.h z a w M F U h0 hC hZ) fun _ _ _ hq => hq.mono (hK _)
theorem V.skip (h : K .normal env s) : V P cx n .skip env s K := .mk fun _ _ _ M F U _ hC hZ => wp_skip ⟨env, s, M, F, U, h, hC, hZ⟩
theorem V.label {l : Nat} (h : K .normal env s) : V P cx n (.label l) env s K := .mk fun _ _ _ M F U _ hC hZ => wp_label ⟨env, s, M, F, U, h, hC, hZ⟩
theorem V.exit {id : Nat} (h : K (.exit id) env s) : V P cx n (.exit id) env s K := .mk fun _ _ _ M F U _ hC hZ => wp_exit ⟨env, s, M, F, U, h, hC, hZ⟩
theorem V.ret (h : K .ret env s) : V P cx n .ret env s K := .mk fun _ _ _ M F U _ hC hZ => wp_ret ⟨env, s, M, F, U, h, hC, hZ⟩
def KT (J : Env → List (Nat × AB) → Prop) (K : Exit → Env → List (Nat × AB) → Prop) : Exit → Env → List (Nat × AB) → Prop
  | .normal => J
  | e => K e
theorem V.seq (h : V P cx n x env s (KT (fun env s => V P cx n y env s K) K)) : V P cx n (.seq x y) env s K := .mk fun z a w M F U h0 hC hZ => wp_seq (wp_mono (h.h z a w M F U h0 hC hZ) fun e a w hq => by
  obtain ⟨env, s, M, F, U, h1, h2, h3⟩ := hq
  cases e with
  | normal => exact h1.h z a w M F U h0 h2 h3
  | _ => exact ⟨env, s, M, F, U, h1, h2, h3⟩)
def KB (id : Nat) (K : Exit → Env → List (Nat × AB) → Prop) : Exit → Env → List (Nat × AB) → Prop
  | .exit id' => match Nat.beq id' id with
    | true => K .normal
    | false => K (.exit id')
  | e => K e
theorem V.block {id : Nat} (h : V P cx n c env s (KB id K)) : V P cx n (.block id c) env s K := .mk fun z a w M F U h0 hC hZ => wp_block (wp_mono (h.h z a w M F U h0 hC hZ) fun e a w hq => by
  obtain ⟨env, s, M, F, U, h1, h2⟩ := hq
  cases e with
  | exit id' =>
    simp only [Exit.inBlock]
    simp only [KB] at h1
    cases hb : Nat.beq id' id with
    | true =>
      rw [hb] at h1
      rw [if_pos (beq_t hb)]
      exact ⟨env, s, M, F, U, h1, h2⟩
    | false =>
      rw [hb] at h1
      rw [if_neg (fun h => by subst h; simp at hb)]
      exact ⟨env, s, M, F, U, h1, h2⟩
  | _ => exact ⟨env, s, M, F, U, h1, h2⟩)
def bcase (b : Bool) (X Y : Prop) : Prop := match b with
  | true => X
  | false => Y
theorem bcase_intro {b : Bool} {X Y : Prop} (h1 : b = true → X) (h2 : b = false → Y) : bcase b X Y := by
  cases b with
  | true => exact h1 rfl
  | false => exact h2 rfl
theorem V.cond {c : Operand} (h : match rho cx.G env [] c with
    | .d (.bool b) => bcase b (V P cx n x env s K) (V P cx n y env s K)
    | _ => False) : V P cx n (.cond c x y) env s K := by
  constructor
  intro z a w M F U h0 hC hZ
  split at h
  · rename_i b hb
    have hx := hC.operand c
    rw [hb] at hx
    refine wp_cond_split hx.bool_inv (fun e => ?_) (fun e => ?_)
    · subst e; exact V.h h z a w M F U h0 hC hZ
    · subst e; exact V.h h z a w M F U h0 hC hZ
  · exact h.elim
theorem V.loop (I : Nat → Env → List (Nat × AB) → Prop) {m : Nat} (h0 : I m env s)
    (step : ∀ m env s, I m env s → V P cx n c env s (KT (fun env' s' => ∃ k, k < m ∧ I k env' s') K)) : V P cx n (.loop c) env s K := by
  constructor
  intro z a w M F U hN hC hZ
  have key : ∀ (N m : Nat) (env : Env) (s : List (Nat × AB)) (a : Act) (w : World) (M : Mp) (F U : Nat → Prop), m < N → I m env s → CS cx M F U [] s w env a → Sin z M F U s w → Code.rounds P c (QV cx z K) N a w := by
    intro N
    induction N with
    | zero => intro m _ _ _ _ _ _ _ h; omega
    | succ N ih =>
      intro m env s a w M F U hn hI hC hZ
      rw [rounds_succ]
      refine wp_mono ((step m env s hI).h z a w M F U hN hC hZ) fun e a w hq => ?_
      obtain ⟨env, s, M, F, U, h1, h2, h3⟩ := hq
      cases e with
      | normal =>
        obtain ⟨k, hk, hI⟩ := h1
        exact ih k env s a w M F U (by omega) hI h2 h3
      | _ => exact ⟨env, s, M, F, U, h1, h2, h3⟩
  exact wp_loop_rounds (m + 1) (key (m + 1) m env s a w M F U (by omega) h0 hC hZ)
theorem V.ghost {env' : Env} {s' : List (Nat × AB)} (hg : GV cx n env [] s env' s') (h : V P cx n c env' s' K) : V P cx n c env s K := .mk fun z a w M F U h0 h1 h2 => by
  obtain ⟨M', F', U', h3, h4⟩ := hg z a w M F U h0 h1 h2
  exact h.h z a w M' F' U' h0 h3 h4
theorem V.gpost (h : V P cx n c env s K) (hK : ∀ e env s, K e env s → ∃ env' s', GV cx n env [] s env' s' ∧ K' e env' s') : V P cx n c env s K' := .mk fun z a w M F U h0 hC hZ => wp_mono (h.h z a w M F U h0 hC hZ) fun e a w hq => by
  obtain ⟨env, s, M, F, U, h1, h2, h3⟩ := hq
  obtain ⟨env', s', hg, hk⟩ := hK _ _ _ h1
  obtain ⟨M', F', U', h4, h5⟩ := hg z a w M F U h0 h2 h3
  exact ⟨env', s', M', F', U', hk, h4, h5⟩
/-- In rounds, with what is told made ready ahead of each. -/
theorem V.rounds (I : Nat → Env → List (Nat × AB) → Prop) (h0 : ∃ e2 s2, GV cx n env [] s e2 s2 ∧ ∃ m, I m e2 s2)
    (step : ∀ m env s, I m env s → V P cx n c env s (KT (fun env' s' => ∃ e2 s2, GV cx n env' [] s' e2 s2 ∧ ∃ k, k < m ∧ I k e2 s2) K)) : V P cx n (.loop c) env s K := by
  obtain ⟨e2, s2, hg, m, hI⟩ := h0
  refine V.ghost hg (V.loop I hI fun m env s hI => (step m env s hI).gpost fun e env' s' h => ?_)
  cases e with
  | normal => exact h
  | _ => exact ⟨_, _, .refl, h⟩
/-- Round by round. -/
def vrounds (P : Program) (cx : Ctx) (n : Nat) (c : Code) (K : Exit → Env → List (Nat × AB) → Prop) : Nat → Env → List (Nat × AB) → Prop
  | 0, _, _ => False
  | k + 1, env, s => V P cx n c env s (KT (fun env s => vrounds P cx n c K k env s) K)
theorem V.unroll (k : Nat) (h : vrounds P cx n c K k env s) : V P cx n (.loop c) env s K := by
  constructor
  intro z a w M F U hN hC hZ
  have key : ∀ (k : Nat) (env : Env) (s : List (Nat × AB)) (a : Act) (w : World) (M : Mp) (F U : Nat → Prop), vrounds P cx n c K k env s → CS cx M F U [] s w env a → Sin z M F U s w → Code.rounds P c (QV cx z K) k a w := by
    intro k
    induction k with
    | zero => intro _ _ _ _ _ _ _ h; exact h.elim
    | succ k ih =>
      intro env s a w M F U h hC hZ
      rw [rounds_succ]
      refine wp_mono (V.h h z a w M F U hN hC hZ) fun e a w hq => ?_
      obtain ⟨env, s, M, F, U, h1, h2, h3⟩ := hq
      cases e with
      | normal => exact ih env s a w M F U h1 h2 h3
      | _ => exact ⟨env, s, M, F, U, h1, h2, h3⟩
  exact wp_loop_rounds k (key k env s a w M F U h hC hZ)

/-! ### Objects named anew, others dropped -/
def gsel (σ : List Nat) : Rf → Option Rf
  | .l _ => none
  | .g j => match rnK σ j 0 with
    | some k => some (.g k)
    | none => none
def gatherS (σ : List Nat) (s : List (Nat × AB)) : List Nat → Nat → Option (List (Nat × AB))
  | [], _ => some []
  | j :: r, k => match sfind s j with
    | some ab => match ab.rn (gsel σ) with
      | some ab => match gatherS σ s r (k + 1) with
        | some l => some ((k, ab) :: l)
        | none => none
      | none => none
    | none => none
theorem gatherS_get {σ : List Nat} {s : List (Nat × AB)} : ∀ {τ : List Nat} {k : Nat} {s0 : List (Nat × AB)}, gatherS σ s τ k = some s0 → s0.map (·.1) = List.range' k τ.length ∧ ∀ m ab', (m, ab') ∈ s0 → ∃ j id ab, m = k + j ∧ τ[j]? = some id ∧ (id, ab) ∈ s ∧ ab.rn (gsel σ) = some ab'
  | [], k, s0, h => by simp only [gatherS, Option.some.injEq] at h; subst h; simp
  | id :: r, k, s0, h => by
    simp only [gatherS] at h
    split at h <;> try cases h
    rename_i ab hab
    split at h <;> try cases h
    rename_i ab' hab'
    split at h <;> cases h
    rename_i l hl
    obtain ⟨h1, h2⟩ := gatherS_get hl
    refine ⟨by simp [h1, List.range'_succ], fun m x hx => ?_⟩
    rcases List.mem_cons.1 hx with e | hx
    · cases e; exact ⟨0, id, ab, rfl, rfl, sfind_mem hab, hab'⟩
    · obtain ⟨j, id', ab2, q1, q2, q3, q4⟩ := h2 m x hx
      exact ⟨j + 1, id', ab2, by omega, by simpa using q2, q3, q4⟩
/-- The first names stay. -/
def uptoB : Nat → Nat → List Nat → Bool
  | 0, _, _ => true
  | _ + 1, _, [] => false
  | n + 1, k, x :: r => Nat.beq x k && uptoB n (k + 1) r
theorem uptoB_get : ∀ {n k : Nat} {σ : List Nat}, uptoB n k σ = true → ∀ i, i < n → σ[i]? = some (k + i)
  | 0, _, _, _, i, hi => by omega
  | _ + 1, _, [], h, _, _ => by simp [uptoB] at h
  | n + 1, k, x :: r, h, i, hi => by
    simp only [uptoB, Bool.and_eq_true] at h
    have := beq_t h.1
    cases i with
    | zero => simp [this]
    | succ i =>
      have := uptoB_get h.2 i (by omega)
      simp only [List.getElem?_cons_succ, this]
      congr 1; omega
def Mp.gath (M : Mp) (σ : List Nat) : Mp := ⟨fun _ => none, fun k => (σ[k]?).bind M.g⟩
theorem via_gsel (M : Mp) (σ : List Nat) : Mp.Via (gsel σ) M (M.gath σ).glo := fun r r' b h hm => by
  cases r with
  | l k => cases h
  | g j =>
    simp only [gsel] at h
    split at h <;> cases h
    rename_i k hk
    obtain ⟨i, h1, h2⟩ := rnK_some hk
    simp only [Nat.zero_add] at h1
    subst h1
    simp only [Mp.at_, Mp.glo, Mp.gath, h2]
    exact hm
theorem via_gsel' (M : Mp) (σ : List Nat) : Mp.Via (gsel σ) M (M.gath σ) := fun r r' b h hm => (M.gath σ).glo_le r' b (via_gsel M σ r r' b h hm)
theorem GV.gather_M {s' : List (Nat × AB)} (σ : List Nat) (hs : gatherS σ s σ 0 = some s') (hn : nodupB σ = true) (hup : uptoB n 0 σ = true) (z : Z) (a : Act) (w : World) (M : Mp) (F U : Nat → Prop) (h0 : ToldN n z) (hC : CS cx M F U [] s w env a) (hZ : Sin z M F U s w) :
    ∃ M' F' U', (CS cx M' F' U' [] s' w (mapE (gsel σ) env) a ∧ M' = M.gath σ ∧ F' = F ∧ U' = U) ∧ Sin z M' F' U' s' w := by
  obtain ⟨hids, hget⟩ := gatherS_get hs
  have hnd := nodupB_spec hn
  have hup := uptoB_get hup
  have hidlt : ∀ id, id ∈ s'.map (·.1) ↔ id < σ.length := fun id => by rw [hids]; simp [List.mem_range']
  have hσ : ∀ id ab, (id, ab) ∈ s' → ∃ j ab0, σ[id]? = some j ∧ (j, ab0) ∈ s ∧ ab0.rn (gsel σ) = some ab := fun id ab h => by
    obtain ⟨j, id', ab0, q1, q2, q3, q4⟩ := hget id ab h
    simp only [Nat.zero_add] at q1
    subst q1
    exact ⟨id', ab0, q2, q3, q4⟩
  have hst : St (M.gath σ) F U [] s' w := hC.st.recast (f := fun id => .g ((σ[id]?).getD 0)) (fun _ => rfl) (by rw [hids]; exact List.nodup_range') (fun id ab h => by
      obtain ⟨j, ab0, q1, q2, q3⟩ := hσ id ab h
      obtain ⟨b, hb⟩ := hC.st.tot j ab0 q2
      exact ⟨ab0, b, by simpa [q1, Here] using q2, hC.st.rb_rn (via_gsel M σ) q3 b, fun e h => e ((AB.rn_dead q3).2 h), by simpa [q1, Mp.at_] using hb, by simpa [Mp.gath, q1] using hb⟩) (fun id id' e h1 h2 => by
      rw [hidlt] at h1 h2
      simp only [List.getElem?_eq_getElem h1, List.getElem?_eq_getElem h2, Option.getD_some, Rf.g.injEq] at e
      exact (List.getElem?_inj h1 hnd).1 (by rw [List.getElem?_eq_getElem h1, List.getElem?_eq_getElem h2, e])) (fun id h => by
      simp only [Mp.gath]
      have : ¬ id < σ.length := fun hlt => by
        have := (hidlt id).2 hlt
        obtain ⟨⟨i, ab⟩, q1, q2⟩ := List.mem_map.1 this
        simp only at q2
        subst q2
        exact h ab q1
      rw [List.getElem?_eq_none (by omega)]
      rfl)
  refine ⟨M.gath σ, F, U, ⟨⟨hst, hC.gl, mapE_rv (via_gsel' M σ) hC.env, hC.size, hC.defers⟩, rfl, rfl, rfl⟩, ⟨fun id b hb => ?_, hZ.FF, hZ.UU, hZ.Fn, hZ.ext, fun k b hb => (by cases hb), fun id ab b h1 h2 h3 => ?_, fun id ab h => ?_⟩⟩
  · have hlt : id < n := by
      rcases Nat.lt_or_ge id n with q | q
      · exact q
      · rw [h0 id q] at hb; cases hb
    simp only [Mp.gath, hup id hlt, Nat.zero_add, Option.bind_some]
    exact hZ.g id b hb
  · obtain ⟨j, ab0, q1, q2, q3⟩ := hσ id ab h1
    simp only [Mp.gath, q1, Option.bind_some] at h3
    exact hZ.lg j ab0 b q2 (fun e => h2 ((AB.rn_dead q3).2 e)) h3
  · rcases Nat.lt_or_ge id n with q | q
    · obtain ⟨j, ab0, q1, q2, q3⟩ := hσ id ab h
      rw [hup id q] at q1
      simp only [Nat.zero_add, Option.some.injEq] at q1
      subst q1
      exact hZ.ids id ab0 q2
    · exact .inr (h0 id q)
theorem GV.gather {s' : List (Nat × AB)} (σ : List Nat) (hs : gatherS σ s σ 0 = some s') (hn : nodupB σ = true) (hup : uptoB n 0 σ = true) : GV cx n env [] s (mapE (gsel σ) env) s' := fun z a w M F U h0 hC hZ => by
  obtain ⟨M', F', U', h1, h2⟩ := GV.gather_M σ hs hn hup z a w M F U h0 hC hZ
  exact ⟨M', F', U', h1.1, h2⟩

/-! ### What a region's head has made bears a name from then on -/
def witB (env : Env) (k : Nat) : List Nat → Bool
  | [] => false
  | t :: r => (match look env t with
    | .ref (.l j) _ => Nat.beq j k
    | _ => false) || witB env k r
theorem witB_get {k : Nat} (h : ∀ t, RV M F w (look env t) (slotv a t)) : ∀ {ts : List Nat}, witB env k ts = true → ∃ b, M.l k = some b
  | [], h' => by simp [witB] at h'
  | t :: r, h' => by
    simp only [witB, Bool.or_eq_true] at h'
    rcases h' with h' | h'
    · split at h' <;> try cases h'
      rename_i j off hj
      have := beq_t h'
      subst this
      have h1 := h t
      rw [hj] at h1
      generalize slotv a t = u at h1
      cases h1 with
      | ref _ _ b hm => exact ⟨b, hm⟩
    · exact witB_get h h'
def psel (base : Nat) (ok : Nat → Bool) : Rf → Option Rf
  | .g i => some (.g i)
  | .l k => match ok k with
    | true => some (.g (base + k))
    | false => none
def promS (base : Nat) (ok : Nat → Bool) : Nat → List AB → Option (List (Nat × AB))
  | _, [] => some []
  | k, ab :: r => match ok k with
    | true => match ab.rn (psel base ok) with
      | some ab => match promS base ok (k + 1) r with
        | some l => some ((base + k, ab) :: l)
        | none => none
      | none => none
    | false => promS base ok (k + 1) r
theorem promS_get {base : Nat} {ok : Nat → Bool} : ∀ {L : List AB} {k : Nat} {l : List (Nat × AB)}, promS base ok k L = some l → (∀ id ab', (id, ab') ∈ l → ∃ j ab, id = base + (k + j) ∧ ok (k + j) = true ∧ L[j]? = some ab ∧ ab.rn (psel base ok) = some ab') ∧ (l.map (·.1)).Nodup ∧ (∀ id ∈ l.map (·.1), base + k ≤ id) ∧ (∀ j ab, L[j]? = some ab → ok (k + j) = true → base + (k + j) ∈ l.map (·.1))
  | [], k, l, h => by
    simp only [promS, Option.some.injEq] at h
    subst h
    exact ⟨fun id ab h => by simp at h, .nil, fun id h => by simp at h, fun j ab h => by simp at h⟩
  | ab :: r, k, l, h => by
    simp only [promS] at h
    split at h
    · rename_i hok
      split at h <;> try cases h
      rename_i ab' hab
      split at h <;> cases h
      rename_i l' hl
      obtain ⟨q1, q2, q3, q4⟩ := promS_get hl
      refine ⟨fun id x hx => ?_, ?_, fun id hid => ?_, fun j y hy hj => ?_⟩
      · rcases List.mem_cons.1 hx with e | hx
        · cases e; exact ⟨0, ab, rfl, hok, rfl, hab⟩
        · obtain ⟨j, y, e1, e2, e3, e4⟩ := q1 id x hx
          exact ⟨j + 1, y, by omega, by rw [← e2]; congr 1; omega, by simpa using e3, e4⟩
      · simp only [List.map_cons, List.nodup_cons]
        exact ⟨fun hm => by have := q3 _ hm; omega, q2⟩
      · simp only [List.map_cons, List.mem_cons] at hid
        rcases hid with rfl | hid
        · omega
        · have := q3 id hid; omega
      · cases j with
        | zero => simp
        | succ j =>
          simp only [List.map_cons, List.mem_cons]
          right
          have := q4 j y (by simpa using hy) (by rw [← hj]; congr 1; omega)
          rw [show k + (j + 1) = k + 1 + j by omega]
          exact this
    · obtain ⟨q1, q2, q3, q4⟩ := promS_get h
      rename_i hok
      refine ⟨fun id x hx => ?_, q2, fun id hid => (by have := q3 id hid; omega), fun j y hy hj => ?_⟩
      · obtain ⟨j, y, e1, e2, e3, e4⟩ := q1 id x hx
        exact ⟨j + 1, y, by omega, by rw [← e2]; congr 1; omega, by simpa using e3, e4⟩
      · cases j with
        | zero => simp only [Nat.add_zero] at hj; rw [hok] at hj; cases hj
        | succ j =>
          have := q4 j y (by simpa using hy) (by rw [← hj]; congr 1; omega)
          rw [show k + (j + 1) = k + 1 + j by omega]
          exact this
def Mp.prom (M : Mp) (base : Nat) (ok : Nat → Bool) : Mp := ⟨fun _ => none, fun id => match Nat.ble base id with
  | true => match ok (id - base) with
    | true => M.l (id - base)
    | false => none
  | false => M.g id⟩
def belowB (base : Nat) : List (Nat × AB) → Bool
  | [] => true
  | (i, _) :: r => Nat.blt i base && belowB base r
theorem belowB_get {base : Nat} : ∀ {s : List (Nat × AB)}, belowB base s = true → ∀ id ab, (id, ab) ∈ s → id < base
  | [], _, _, _, h => by simp at h
  | (i, x) :: r, h, id, ab, hm => by
    simp only [belowB, Bool.and_eq_true] at h
    rcases List.mem_cons.1 hm with e | hm
    · cases e; simpa [Nat.blt_eq] using h.1
    · exact belowB_get h.2 id ab hm
theorem GV.prom {base : Nat} {ok : Nat → Bool} {s2 : List (Nat × AB)} (hw : ∀ k, k < L.length → ok k = true → witB env k cx.keep = true) (hok : ∀ k, L.length ≤ k → ok k = false) (hs : promS base ok 0 L = some s2) (hb : belowB base s = true) (hn : n ≤ base) :
    GV cx n env L s (mapE (psel base ok) env) (s ++ s2) := by
  intro z a w M F U h0 hC hZ
  obtain ⟨q1, q2, q3, q4⟩ := promS_get hs
  simp only [Nat.zero_add, Nat.add_zero] at q1 q3 q4
  have hbel := belowB_get hb
  have hgn : ∀ id, base ≤ id → M.g id = none := fun id hid => hC.st.gdom id fun ab h => by have := hbel id ab h; omega
  have hvia : Mp.Via (psel base ok) M (M.prom base ok).glo := fun r r' b h hm => by
    cases r with
    | g i =>
      cases h
      simp only [Mp.at_, Mp.glo, Mp.prom]
      have hi : i < base := by
        rcases Nat.lt_or_ge i base with q | q
        · exact q
        · have := hgn i q; simp only [Mp.at_] at hm; rw [this] at hm; cases hm
      have : Nat.ble base i = false := by
        cases e : Nat.ble base i with
        | false => rfl
        | true => have := Nat.le_of_ble_eq_true e; omega
      rw [this]
      exact hm
    | l k =>
      simp only [psel] at h
      split at h <;> cases h
      rename_i hk
      simp only [Mp.at_, Mp.glo, Mp.prom, Nat.ble_eq_true_of_le (Nat.le_add_right base k), Nat.add_sub_cancel_left, hk]
      exact hm
  have hprom : ∀ k b, ok k = true → M.l k = some b → (M.prom base ok).g (base + k) = some b := fun k b hk hb => by
    simp only [Mp.prom, Nat.ble_eq_true_of_le (Nat.le_add_right base k), Nat.add_sub_cancel_left, hk]
    exact hb
  have hold : ∀ id, id < base → (M.prom base ok).g id = M.g id := fun id hid => by
    have : Nat.ble base id = false := by
      cases e : Nat.ble base id with
      | false => rfl
      | true => have := Nat.le_of_ble_eq_true e; omega
    simp only [Mp.prom, this]
  have hwl : ∀ k, ok k = true → ∃ b, M.l k = some b := fun k hk => witB_get hC.env (hw k (by
    rcases Nat.lt_or_ge k L.length with q | q
    · exact q
    · rw [hok k q] at hk; cases hk) hk)
  have hvia' : Mp.Via (psel base ok) M (M.prom base ok) := fun r r' b h hm => (M.prom base ok).glo_le r' b (hvia r r' b h hm)
  have hle : M.glo.Le (M.prom base ok).glo := fun r b h => by
    cases r with
    | l k => cases h
    | g i => exact hvia (.g i) (.g i) b rfl h
  have hs2 : ∀ id ab', (id, ab') ∈ s2 → ∃ j ab b, id = base + j ∧ ok j = true ∧ L[j]? = some ab ∧ ab.rn (psel base ok) = some ab' ∧ M.l j = some b := fun id ab' h => by
    obtain ⟨j, ab, e1, e2, e3, e4⟩ := q1 id ab' h
    obtain ⟨b, hb⟩ := hwl j e2
    exact ⟨j, ab, b, e1, e2, e3, e4, hb⟩
  have hcase : ∀ id ab', (id, ab') ∈ s ++ s2 → ((id, ab') ∈ s ∧ id < base) ∨ ((id, ab') ∈ s2 ∧ base ≤ id) := fun id ab' h => by
    rcases List.mem_append.1 h with h | h
    · exact .inl ⟨h, hbel id ab' h⟩
    · obtain ⟨j, _, _, e1, _⟩ := hs2 id ab' h
      exact .inr ⟨h, by omega⟩
  have hst : St (M.prom base ok) F U [] (s ++ s2) w := by
    refine hC.st.recast (f := fun id => match Nat.ble base id with
      | true => .l (id - base)
      | false => .g id) (fun _ => rfl) ?_ (fun id ab' h => ?_) (fun id id' e _ _ => ?_) (fun id h => ?_)
    · rw [List.map_append]
      refine List.nodup_append.2 ⟨hC.st.nd, q2, fun x hx y hy e => ?_⟩
      subst e
      obtain ⟨⟨i, ab⟩, p1, p2⟩ := List.mem_map.1 hx
      simp only at p2
      subst p2
      have := hbel i ab p1
      have := q3 i hy
      omega
    · rcases hcase id ab' h with ⟨h, hid⟩ | ⟨h, hid⟩
      · obtain ⟨b, hb⟩ := hC.st.tot id ab' h
        have hf : Nat.ble base id = false := by
          cases e : Nat.ble base id with
          | false => rfl
          | true => have := Nat.le_of_ble_eq_true e; omega
        simp only [hf]
        exact ⟨ab', b, h, fun hr => hr.mono hle (fun _ h => h) hC.st.FU (.refl _ _) (fun _ => rfl), fun e => e, hb, by rw [hold id hid]; exact hb⟩
      · obtain ⟨j, ab, b, e1, e2, e3, e4, e5⟩ := hs2 id ab' h
        subst e1
        simp only [Nat.ble_eq_true_of_le (Nat.le_add_right base j), Nat.add_sub_cancel_left]
        exact ⟨ab, b, e3, hC.st.rb_rn hvia e4 b, fun d h => d ((AB.rn_dead e4).2 h), e5, hprom j b e2 e5⟩
    · cases e1 : Nat.ble base id <;> cases e2 : Nat.ble base id' <;> rw [e1, e2] at e <;> simp only [Rf.g.injEq, Rf.l.injEq] at e
      · exact e
      · cases e
      · cases e
      · have := Nat.le_of_ble_eq_true e1
        have := Nat.le_of_ble_eq_true e2
        omega
    · rcases Nat.lt_or_ge id base with q | q
      · rw [hold id q]
        exact hC.st.gdom id fun ab hab => h ab (List.mem_append.2 (.inl hab))
      · simp only [Mp.prom, Nat.ble_eq_true_of_le q]
        split
        · rename_i hk
          exfalso
          have hlt : id - base < L.length := by
            rcases Nat.lt_or_ge (id - base) L.length with q | q
            · exact q
            · rw [hok _ q] at hk; cases hk
          have := q4 (id - base) _ (List.getElem?_eq_getElem hlt) hk
          obtain ⟨⟨i, ab⟩, p1, p2⟩ := List.mem_map.1 this
          simp only at p2
          rw [show base + (id - base) = id by omega] at p2
          subst p2
          exact h ab (List.mem_append.2 (.inr p1))
        · rfl
  refine ⟨M.prom base ok, F, U, ⟨hst, hC.gl, mapE_rv hvia' hC.env, hC.size, hC.defers⟩, ⟨fun id b hb => ?_, hZ.FF, hZ.UU, hZ.Fn, hZ.ext, fun k b hb => (by cases hb), fun id ab b h1 h2 h3 => ?_, fun id ab h => ?_⟩⟩
  · have hlt : id < n := by
      rcases Nat.lt_or_ge id n with q | q
      · exact q
      · rw [h0 id q] at hb; cases hb
    rw [hold id (by omega)]
    exact hZ.g id b hb
  · rcases hcase id ab h1 with ⟨h, hid⟩ | ⟨h, hid⟩
    · rw [hold id hid] at h3
      exact hZ.lg id ab b h h2 h3
    · obtain ⟨j, ab0, b0, e1, e2, e3, e4, e5⟩ := hs2 id ab h
      subst e1
      rw [hprom j b0 e2 e5] at h3
      cases h3
      exact .inl (hZ.ll j _ e5)
  · rcases hcase id ab h with ⟨h, hid⟩ | ⟨h, hid⟩
    · exact hZ.ids id ab h
    · exact .inr (h0 id (by omega))
end
end Go.Pv
/- An object of our own that is written no more: data from then on. -/
namespace Go.Pv
open Go.RowKit

section
variable {P : Program} {cx : Ctx} {env : Env} {L : List AB} {s s' : List (Nat × AB)} {M M' : Mp} {F U : Nat → Prop} {w : World} {a : Act} {z : Z} {n : Nat}

def fzB (id : Nat) (ab : AB) : AB → AB
  | .cells cs => .cells (fzL id ab cs)
  | .arow sz rows => .arow sz (rows.map (fzL id ab))
  | .map es => .map (es.map fun e => (e.1.fz id ab, e.2.fz id ab))
  | .row sz rows => .row sz rows
  | .dmap es => .dmap es
  | .dead => .dead
def fzBOK (id : Nat) (ab : AB) : AB → Prop
  | .cells cs => fzLOK id ab cs
  | .arow _ rows => ∀ r ∈ rows, fzLOK id ab r
  | .map es => ∀ e ∈ es, e.1.fzOK id ab ∧ e.2.fzOK id ab
  | _ => True
theorem fzB_dead {id : Nat} {ab x : AB} : fzB id ab x = .dead ↔ x = .dead := by cases x <;> simp [fzB]
theorem DX.fz {F' : Nat → Prop} {x : DX} {v : Value} (h : RV M F w x.av v) (hF : ∀ b, F b → F' b) : RV M F' w x.av v := by
  cases x with
  | one x => cases h with | d h => exact .d (h.mono hF (fun _ _ => rfl))
  | agg xs =>
    simp only [DX.av] at h ⊢
    cases h with
    | agg cs vs hl h1 h =>
      refine .agg _ vs hl h1 fun j x v hx hv => ?_
      have := h j x v hx hv
      rw [List.getElem?_map] at hx
      obtain ⟨y, hy, rfl⟩ := Option.map_eq_some_iff.1 hx
      cases this with | d h => exact .d (h.mono hF (fun _ _ => rfl))
theorem RB.fz (hS : St M F U L s w) {M0 : Mp} {id b : Nat} {ab : AB} (hid : sfind s id = some ab) (hb : M.g id = some b) (h0 : M0.g id = some b) (hle : M0.Le M) {x : AB} {c : Nat} (h : RB M0 F w c x) (hok : fzBOK id ab x) : RB M0 (fun c => F c ∨ c = b) w c (fzB id ab x) := by
  cases x with
  | cells cs =>
    obtain ⟨arr, t, h1, h2, h3⟩ := h
    refine ⟨arr, t, h1, by rw [fzL_len]; exact h2, fun j y u hy hu => ?_⟩
    obtain ⟨x, hx, rfl⟩ := fzL_get hy
    exact ⟨(h3 j x u hx hu).1, (h3 j x u hx hu).2.fz hS hid hb h0 hle (fun _ h => h) (fzLOK_get hok hx)⟩
  | row sz rows =>
    obtain ⟨arr, t, h1, h2, h3, h4, h5⟩ := h
    exact ⟨arr, t, h1, h2, h3, h4, fun i r j x v hi hj hv => (h5 i r j x v hi hj hv).mono (fun _ h => .inl h) (fun _ _ => rfl)⟩
  | arow sz rows =>
    obtain ⟨arr, t, h1, h2, h3, h4, h5⟩ := h
    refine ⟨arr, t, h1, by simpa [fzB] using h2, fun i r hi => ?_, h4, fun i r j x v hi hj hv => ?_⟩
    · simp only [List.getElem?_map] at hi
      obtain ⟨r0, hr0, rfl⟩ := Option.map_eq_some_iff.1 hi
      rw [fzL_len]; exact h3 i r0 hr0
    · rw [List.getElem?_map] at hi
      obtain ⟨r0, hr0, rfl⟩ := Option.map_eq_some_iff.1 hi
      obtain ⟨x0, hx0, rfl⟩ := fzL_get hj
      exact (h5 i r0 j x0 v hr0 hx0 hv).fz hS hid hb h0 hle (fun _ h => h) (fzLOK_get (hok r0 (List.mem_of_getElem? hr0)) hx0)
  | map es =>
    obtain ⟨ents, clock, h1, h2, h3, h4⟩ := h
    refine ⟨ents, clock, h1, by simpa [fzB] using h2, fun i e x he hx => ?_, h4⟩
    rw [List.getElem?_map] at hx
    obtain ⟨y, hy, rfl⟩ := Option.map_eq_some_iff.1 hx
    have := hok y (List.mem_of_getElem? hy)
    exact ⟨(h3 i e y he hy).1.fz hS hid hb h0 hle (fun _ h => h) this.1, (h3 i e y he hy).2.fz hS hid hb h0 hle (fun _ h => h) this.2⟩
  | dmap es =>
    obtain ⟨ents, clock, h1, h2, h3, h4⟩ := h
    exact ⟨ents, clock, h1, h2, fun i e x he hx => ⟨DX.fz (h3 i e x he hx).1 (fun _ h => .inl h), DX.fz (h3 i e x he hx).2 (fun _ h => .inl h)⟩, h4⟩
  | dead => trivial

def fzE (id : Nat) (ab : AB) : Env → Env
  | [] => []
  | (t, v) :: r => (t, v.fz id ab) :: fzE id ab r
def fzEOK (id : Nat) (ab : AB) : Env → Prop
  | [] => True
  | (_, v) :: r => v.fzOK id ab ∧ fzEOK id ab r
def fzS (id : Nat) (ab : AB) : List (Nat × AB) → List (Nat × AB)
  | [] => []
  | (i, x) :: r => (i, match Nat.beq i id with
    | true => .dead
    | false => fzB id ab x) :: fzS id ab r
def fzSOK (id : Nat) (ab : AB) : List (Nat × AB) → Prop
  | [] => True
  | (i, x) :: r => (match Nat.beq i id with
    | true => True
    | false => fzBOK id ab x) ∧ fzSOK id ab r
theorem fzS_get {id : Nat} {ab : AB} : ∀ {s : List (Nat × AB)}, fzSOK id ab s → (fzS id ab s).map (·.1) = s.map (·.1) ∧ ∀ i y, (i, y) ∈ fzS id ab s → ∃ x, (i, x) ∈ s ∧ ((i = id ∧ y = .dead) ∨ (i ≠ id ∧ y = fzB id ab x ∧ fzBOK id ab x))
  | [], _ => ⟨rfl, fun i y h => by simp [fzS] at h⟩
  | (j, x) :: r, h => by
    simp only [fzSOK] at h
    obtain ⟨k1, k2⟩ := fzS_get h.2
    refine ⟨by simp [fzS, k1], fun i y hy => ?_⟩
    simp only [fzS] at hy
    rcases List.mem_cons.1 hy with e | hy
    · cases hb : Nat.beq j id with
      | true =>
        rw [hb] at e
        cases e
        exact ⟨x, by simp, .inl ⟨beq_t hb, rfl⟩⟩
      | false =>
        rw [hb] at e h
        cases e
        exact ⟨x, by simp, .inr ⟨beq_f hb, rfl, h.1⟩⟩
    · obtain ⟨x', h1, h2⟩ := k2 i y hy
      exact ⟨x', List.mem_cons_of_mem _ h1, h2⟩

theorem GV.freeze (id : Nat) {ab : AB} (hid : sfind s id = some ab) (hd : ab ≠ .dead) (hE : fzEOK id ab env) (hSo : fzSOK id ab s) : GV cx n env [] s (fzE id ab env) (fzS id ab s) := by
  intro z a w M F U h0 hC hZ
  have hS := hC.st
  obtain ⟨b, hb⟩ := hS.tot id ab (sfind_mem hid)
  obtain ⟨k1, k2⟩ := fzS_get hSo
  have hbl : b < w.heap.size := hS.lt (r := .g id) (sfind_mem hid) hd hb
  have live : ∀ i y, (i, y) ∈ fzS id ab s → y ≠ .dead → ∃ x, (i, x) ∈ s ∧ i ≠ id ∧ y = fzB id ab x ∧ fzBOK id ab x ∧ x ≠ .dead := fun i y h hy => by
    obtain ⟨x, h1, h2 | h2⟩ := k2 i y h
    · exact absurd h2.2 hy
    · exact ⟨x, h1, h2.1, h2.2.1, h2.2.2, fun e => hy (by rw [h2.2.1, e]; rfl)⟩
  refine ⟨M, fun c => F c ∨ c = b, fun c => U c ∨ c = b, ⟨⟨fun r y c hr hm => ?_, fun r r' y y' c h1 h2 d1 d2 m1 m2 => ?_, fun r y c hr hy hm => ?_, by rw [k1]; exact hS.nd, fun c hc => hc.imp (hS.FU c) (fun h => h), fun c hc => ?_, hS.dom, fun i y h => ?_, fun i h => hS.gdom i fun x hx => ?_⟩, hC.gl.mono (fun _ h => .inl h) hS.FU (.refl _ _), fun t => ?_, hC.size, hC.defers⟩,
    ⟨hZ.g, fun c hc => .inl (hZ.FF c hc), fun c hc => .inl (hZ.UU c hc), fun c hc => ?_, hZ.ext, hZ.ll, fun i y c h1 h2 h3 => ?_, fun i y h => ?_⟩⟩
  · cases r with
    | l k => simp [Here] at hr
    | g i =>
      by_cases hy : y = .dead
      · subst hy; trivial
      · obtain ⟨x, h1, _, rfl, h3, _⟩ := live i y hr hy
        exact (hS.rb (.g i) x c h1 hm).fz hS hid hb (M0 := M.glo) hb M.glo_le h3
  · cases r with
    | l k => simp [Here] at h1
    | g i =>
      cases r' with
      | l k => simp [Here] at h2
      | g i' =>
        obtain ⟨x, p1, _, _, _, p5⟩ := live i y h1 d1
        obtain ⟨x', q1, _, _, _, q5⟩ := live i' y' h2 d2
        exact hS.inj (.g i) (.g i') x x' c p1 q1 p5 q5 m1 m2
  · cases r with
    | l k => simp [Here] at hr
    | g i =>
      obtain ⟨x, p1, p2, _, _, p5⟩ := live i y hr hy
      rintro (h | rfl)
      · exact hS.nU (.g i) x c p1 p5 hm h
      · have := hS.inj (.g i) (.g id) x ab c p1 (sfind_mem hid) p5 hd hm hb
        exact p2 (by cases this; rfl)
  · rcases hc with h | rfl
    · exact hS.Ult c h
    · exact hbl
  · obtain ⟨x, h1, _⟩ := k2 i y h
    exact hS.tot i x h1
  · have : i ∈ (fzS id ab s).map (·.1) := by rw [k1]; exact List.mem_map.2 ⟨_, hx, rfl⟩
    obtain ⟨⟨j, y⟩, p1, p2⟩ := List.mem_map.1 this
    simp only at p2
    subst p2
    exact h y p1
  · have key : ∀ {env : Env}, fzEOK id ab env → ∀ {u : Value}, RV M F w (look env t) u → RV M (fun c => F c ∨ c = b) w (look (fzE id ab env) t) u := by
      intro env
      induction env with
      | nil => intro _ u _; exact .undef _
      | cons x r ih =>
        obtain ⟨i, y⟩ := x
        intro hok u h
        simp only [fzEOK] at hok
        simp only [fzE, look] at h ⊢
        split
        · rename_i hb'
          rw [hb'] at h
          exact RV.fz hS hid hb hb (.refl M) (fun _ h => h) h hok.1
        · rename_i hb'
          rw [hb'] at h
          exact ih hok.2 h
    exact key hE (hC.env t)
  · rcases hc with h | rfl
    · exact hZ.Fn c h
    · exact .inr (hZ.lg id ab c (sfind_mem hid) hd hb)
  · obtain ⟨x, p1, _, _, _, p5⟩ := live i y h1 h2
    exact hZ.lg i x c p1 p5 h3
  · obtain ⟨x, h1, _⟩ := k2 i y h
    exact hZ.ids i x h1

/-- Slots that are told on no more. -/
def dropE (ks : List Nat) : Env → Env
  | [] => []
  | (t, v) :: r => (t, match memB t ks with
    | true => v
    | false => .undef) :: dropE ks r
theorem GV.drop (ks : List Nat) : GV cx n env [] s (dropE ks env) s := by
  intro z a w M F U _ hC hZ
  refine ⟨M, F, U, ⟨hC.st, hC.gl, fun t => ?_, hC.size, hC.defers⟩, hZ⟩
  have key : ∀ {env : Env} {u : Value}, RV M F w (look env t) u → RV M F w (look (dropE ks env) t) u := by
    intro env
    induction env with
    | nil => intro u _; exact .undef _
    | cons x r ih =>
      obtain ⟨i, y⟩ := x
      intro u h
      simp only [dropE, look] at h ⊢
      split
      · rename_i hb
        rw [hb] at h
        split
        · exact h
        · exact .undef _
      · rename_i hb
        rw [hb] at h
        exact ih h
  exact key (hC.env t)

/-- An object that is wanted no more. -/
theorem GV.kill (id : Nat) {ab : AB} (hid : sfind s id = some ab) : GV cx n env [] s env (sput s id .dead) := by
  intro z a w M F U _ hC hZ
  have hE := eff_kill hC.st hid
  exact ⟨M, F, U, ⟨hE.st, hC.gl, hC.env, hC.size, hC.defers⟩, hZ.eff hE⟩
end
end Go.Pv
/- Code told as it stands, and a function's contract of it. -/
namespace Go.Pv
open Go.RowKit

/-- The slots that are told on, each once. -/
def tidyE (env : Env) : List Nat → Env
  | [] => []
  | t :: r => (t, look env t) :: tidyE env r
def tidyK (env : Env) : List Nat → (Env → Prop) → Prop
  | [], K => K []
  | t :: r, K => hAV (look env t) fun v => tidyK env r fun en => K ((t, v) :: en)
theorem tidyK_eq (env : Env) : ∀ (ts : List Nat) (K : Env → Prop), tidyK env ts K = K (tidyE env ts)
  | [], _ => rfl
  | t :: r, K => by simp only [tidyK, hAV_eq, tidyK_eq env r, tidyE]
theorem tidyE_rv {M : Mp} {F : Nat → Prop} {w : World} {env : Env} {v : Nat → Value} (h : ∀ t, RV M F w (look env t) (v t)) : ∀ (ts : List Nat) (t : Nat), RV M F w (look (tidyE env ts) t) (v t)
  | [], t => .undef _
  | x :: r, t => by
    simp only [tidyE, look]
    split
    · rename_i hb
      have := beq_t hb
      subst this
      exact h x
    · exact tidyE_rv h r t

def ktab : List (Nat × Nat) → Nat → Nat
  | [], _ => 0
  | (i, k) :: r, x => match Nat.beq i x with
    | true => k
    | false => ktab r x
def okCode (kt : List (Nat × Nat)) : Code → Bool
  | .region id ops draw => Nat.beq (ktab kt id) 1000 || (Nat.ble (ktab kt id) ops.toList.length && ordOK ops.toList && (!draw || tailOK ops.toList (ktab kt id)))
  | .seq a b => okCode kt a && okCode kt b
  | .cond _ a b => okCode kt a && okCode kt b
  | .block _ c => okCode kt c
  | .loop c => okCode kt c
  | _ => true
def fEnv : Env → (Env → Prop) → Prop
  | [], K => K []
  | (t, v) :: r, K => fAV 100 v fun v => fEnv r fun r => K ((t, v) :: r)
theorem fEnv_eq : ∀ (env : Env) (K : Env → Prop), fEnv env K = K env
  | [], _ => rfl
  | (t, v) :: r, K => by simp only [fEnv, fAV_eq, fEnv_eq r]
def promOk (env : Env) (keep : List Nat) (L : List AB) (k : Nat) : Bool := Nat.blt k L.length && witB env k keep
def promK (keep : List Nat) (n : Nat) (env : Env) (L : List AB) (s : List (Nat × AB)) (K : Env → List (Nat × AB) → Prop) : Prop := match L with
  | [] => K env s
  | x :: r => topK s n fun base => match promS base (promOk env keep (x :: r)) 0 (x :: r) with
    | some s2 => match belowB base s && Nat.ble n base with
      | true => fEnv (mapE (psel base (promOk env keep (x :: r))) env) fun env => fSt (s ++ s2) fun s => K env s
      | false => False
    | none => False
def vc (P : Program) (cx : Ctx) (n : Nat) (kt : List (Nat × Nat)) : Code → Env → List (Nat × AB) → (Exit → Env → List (Nat × AB) → Prop) → Prop
  | .skip, env, s, K => K .normal env s
  | .label _, env, s, K => K .normal env s
  | .exit id, env, s, K => K (.exit id) env s
  | .ret, env, s, K => K .ret env s
  | .seq x y, env, s, K => vc P cx n kt x env s (KT (fun env s => vc P cx n kt y env s K) K)
  | .cond c x y, env, s, K => match rho cx.G env [] c with
    | .d (.bool b) => bcase b (vc P cx n kt x env s K) (vc P cx n kt y env s K)
    | _ => False
  | .block id c, env, s, K => vc P cx n kt c env s (KB id K)
  | .region id ops draw, env, s, K => match Nat.beq (ktab kt id) 1000 with
    | true => V P cx n (.region id ops draw) env s K
    | false => vpre P cx env s (ops.toList.take (ktab kt id)) 0 [] [] fun re L => vseq P cx env (ops.toList.drop (ktab kt id)) (ktab kt id) re [] L s fun re L s => envK cx.keep re env fun env => tidyK env cx.keep fun env => promK cx.keep n env L s fun env s => K .normal env s
  | .loop c, env, s, K => V P cx n (.loop c) env s K
  | c, env, s, K => V P cx n c env s K

section
variable {P : Program} {cx : Ctx} {env : Env} {L : List AB} {s s' : List (Nat × AB)} {M M' : Mp} {F U : Nat → Prop} {w : World} {a : Act} {z : Z} {n : Nat}
theorem KT.mono {J J' : Env → List (Nat × AB) → Prop} {K : Exit → Env → List (Nat × AB) → Prop} (h : ∀ env s, J env s → J' env s) : ∀ e env s, KT J K e env s → KT J' K e env s := fun e env s hk => by
  cases e with
  | normal => exact h env s hk
  | _ => exact hk
theorem promK_get {keep : List Nat} {K : Env → List (Nat × AB) → Prop} (hk : keep = cx.keep) (h : promK keep n env L s K) : ∃ env' s', GV cx n env L s env' s' ∧ K env' s' := by
  subst hk
  unfold promK at h
  split at h
  · exact ⟨env, s, .refl, h⟩
  · rename_i x r
    obtain ⟨base, h⟩ := topK_some h
    split at h <;> try exact h.elim
    rename_i s2 hs2
    split at h <;> try exact h.elim
    rename_i hb
    simp only [Bool.and_eq_true] at hb
    rw [fEnv_eq, fSt_eq] at h
    refine ⟨_, _, GV.prom (fun k _ hok => ?_) (fun k hk => ?_) hs2 hb.1 (Nat.le_of_ble_eq_true hb.2), h⟩
    · simp only [promOk, Bool.and_eq_true] at hok
      exact hok.2
    · simp only [promOk]
      have : Nat.blt k (x :: r).length = false := by
        cases e : Nat.blt k (x :: r).length with
        | false => rfl
        | true => simp [Nat.blt_eq] at e; simp at hk; omega
      rw [this]
      rfl
theorem V.region (hT : TabOK P cx.T) (hm : P.follows .mixedOrders = true) {id : Nat} {ops : Array Oper} {draw : Bool} {k : Nat} {K : Exit → Env → List (Nat × AB) → Prop} (hk : (Nat.ble k ops.toList.length && ordOK ops.toList && (!draw || tailOK ops.toList k)) = true)
    (h : vpre P cx env s (ops.toList.take k) 0 [] [] fun re L => vseq P cx env (ops.toList.drop k) k re [] L s fun re L s => envK cx.keep re env fun env => tidyK env cx.keep fun env => promK cx.keep n env L s fun env s => K .normal env s) : V P cx n (.region id ops draw) env s K := by
  refine .mk fun z a w M F U h0 hC hZ => ?_
  have hv : VC P cx (.region id ops draw) env [] s (fun e env L s => match e with
    | .normal => tidyK env cx.keep fun env => promK cx.keep n env L s fun env s => K .normal env s
    | _ => False) := VC.region hT hm ⟨k, hk, h⟩
  refine wp_mono (hv.h z a w M F U hC hZ) fun e a w hq => ?_
  obtain ⟨env', L', s', M', F', U', h1, h2, h3⟩ := hq
  cases e with
  | normal =>
    simp only [tidyK_eq] at h1
    obtain ⟨env2, s2, hg, hk⟩ := promK_get rfl h1
    obtain ⟨M2, F2, U2, h4, h5⟩ := hg z a w M' F' U' h0 ⟨h2.st, h2.gl, tidyE_rv h2.env _, h2.size, h2.defers⟩ h3
    exact ⟨env2, s2, M2, F2, U2, hk, h4, h5⟩
  | _ => exact h1.elim
theorem vc_sound (hT : TabOK P cx.T) (hm : P.follows .mixedOrders = true) {kt : List (Nat × Nat)} : ∀ {c : Code} {env : Env} {s : List (Nat × AB)} {K : Exit → Env → List (Nat × AB) → Prop}, okCode kt c = true → vc P cx n kt c env s K → V P cx n c env s K := by
  intro c
  induction c with
  | skip => intro env s K _ h; exact .skip h
  | label l => intro env s K _ h; exact .label h
  | exit id => intro env s K _ h; exact .exit h
  | ret => intro env s K _ h; exact .ret h
  | seq x y ihx ihy =>
    intro env s K hok h
    simp only [okCode, Bool.and_eq_true] at hok
    simp only [vc] at h
    exact .seq ((ihx hok.1 h).mono (KT.mono fun env s => ihy hok.2))
  | cond c x y ihx ihy =>
    intro env s K hok h
    simp only [okCode, Bool.and_eq_true] at hok
    simp only [vc] at h
    refine .cond ?_
    split at h
    · rename_i b hb
      try simp only [hb]
      cases b with
      | true => exact ihx hok.1 h
      | false => exact ihy hok.2 h
    · exact h.elim
  | block id c ih =>
    intro env s K hok h
    simp only [okCode] at hok
    simp only [vc] at h
    exact .block (ih hok h)
  | region id ops draw =>
    intro env s K hok h
    simp only [okCode, Bool.or_eq_true] at hok
    simp only [vc] at h
    split at h
    · exact h
    · rename_i hb
      exact V.region hT hm (hok.resolve_left (by rw [hb]; exact Bool.noConfusion)) h
  | loop c ih => intro env s K _ h; simpa only [vc] using h
  | rangeFunc f ps as body _ _ => intro env s K _ h; simpa only [vc] using h
  | scope c ih => intro env s K _ h; simpa only [vc] using h
  | goto l => intro env s K _ h; simpa only [vc] using h
  | refuse why => intro env s K _ h; simpa only [vc] using h

/-! ### A function's contract -/
def vres1S (T : Nat → Option TI) (env : Env) (s : List (Nat × AB)) : ResultVar → Option AV
  | .tmp t => some (look env t)
  | .cell a t => match T t with
    | some ti => match look env a with
      | .ref (.g id) off => match sfind s id with
        | some (.cells cs) => match Nat.beq (takeN cs off ti.size).length ti.size with
          | true => ofCells ti.agg (takeN cs off ti.size)
          | false => none
        | _ => none
      | _ => none
    | none => none
def vresLS (T : Nat → Option TI) (env : Env) (s : List (Nat × AB)) : List ResultVar → Option (List AV)
  | [] => some []
  | r :: rs => match vres1S T env s r with
    | some v => match vresLS T env s rs with
      | some vs => some (v :: vs)
      | none => none
    | none => none
def vresS (T : Nat → Option TI) (env : Env) (s : List (Nat × AB)) : List ResultVar → Option AV
  | [r] => vres1S T env s r
  | rs => match vresLS T env s rs with
    | some vs => some (.tup vs)
    | none => none
theorem vres1S_run (hT : TabOK P cx.T) (hC : CS cx M F U [] s w env a) {r : ResultVar} {v : AV} (h : vres1S cx.T env s r = some v) :
    ∃ val, (match r with
      | .tmp t => pure (a.tmps.getD t Go.undef)
      | .cell x t => do loadVar t (← asAddr (a.tmps.getD x Go.undef)) : Sem Value).run P w = .ok val w ∧ RV M F w v val := by
  cases r with
  | tmp t =>
    cases h
    exact ⟨_, rfl, hC.env t⟩
  | cell x t =>
    simp only [vres1S] at h
    split at h <;> try cases h
    rename_i ti ht
    split at h <;> try cases h
    rename_i k off hl
    split at h <;> try cases h
    rename_i cs hk
    split at h <;> try cases h
    rename_i hb
    have hx := hC.env x
    rw [hl] at hx
    obtain ⟨b, val, hu, hrun, hrv⟩ := load_cells_rv hT hC.st ht hx (r := .g k) (sfind_mem hk) (beq_t hb) h
    refine ⟨val, ?_, hrv⟩
    have hu : a.tmps.getD x Go.undef = .pointer (some ⟨b, off, none⟩) := hu
    simp only [hu, asAddr, Sem.run_bind, Sem.run_pure, Result.andThen_ok, hrun]
theorem vresLS_run (hT : TabOK P cx.T) (hC : CS cx M F U [] s w env a) : ∀ {rs : List ResultVar} {vs : List AV}, vresLS cx.T env s rs = some vs →
    ∃ vals, (rs.mapM (fun
      | .tmp t => pure (a.tmps.getD t Go.undef)
      | .cell x t => do loadVar t (← asAddr (a.tmps.getD x Go.undef)) : ResultVar → Sem Value)).run P w = .ok vals w ∧ vals.length = vs.length ∧ ∀ (j : Nat) (x : AV) (v : Value), vs[j]? = some x → vals[j]? = some v → RV M F w x v
  | [], vs, h => by
    simp only [vresLS, Option.some.injEq] at h
    subst h
    exact ⟨[], by simp [Sem.run_pure], rfl, fun j x v h => by simp at h⟩
  | r :: rs, vs, h => by
    simp only [vresLS] at h
    split at h <;> try cases h
    rename_i v hv
    split at h <;> try cases h
    rename_i vs' hvs
    obtain ⟨val, h1, h2⟩ := vres1S_run hT hC hv
    obtain ⟨vals, h3, h4, h5⟩ := vresLS_run hT hC hvs
    refine ⟨val :: vals, ?_, by simp [h4], fun j x u hx hu => ?_⟩
    · rw [List.mapM_cons]
      simp only [Sem.run_bind]
      cases r <;> simp only [h1, h3, Result.andThen_ok, Sem.run_pure] at * <;> simp_all [Sem.run_pure]
    · cases j with
      | zero => simp at hx hu; subst hx; subst hu; exact h2
      | succ j => exact h5 j x u (by simpa using hx) (by simpa using hu)
theorem vresLS_len {T : Nat → Option TI} {env : Env} {s : List (Nat × AB)} : ∀ {rs : List ResultVar} {vs : List AV}, vresLS T env s rs = some vs → rs.length = vs.length
  | [], vs, h => by simp only [vresLS, Option.some.injEq] at h; subst h; rfl
  | r :: rs, vs, h => by
    simp only [vresLS] at h
    split at h <;> try cases h
    split at h <;> try cases h
    rename_i h'
    simp [vresLS_len h']
theorem vresS_run (hT : TabOK P cx.T) {fn : Func} (hC : CS cx M F U [] s w env a) {v : AV} (h : vresS cx.T env s fn.results.toList = some v) :
    ∃ val, (results fn a.tmps).run P w = .ok val w ∧ RV M F w v val := by
  have key : ∀ {vs : List AV}, vresLS cx.T env s fn.results.toList = some vs → ∃ vals : List Value, (results fn a.tmps).run P w = .ok (if h : vals.toArray.size = 1 then vals.toArray[0] else .tuple vals.toArray) w ∧ vals.length = vs.length ∧ ∀ (j : Nat) (x : AV) (v : Value), vs[j]? = some x → vals[j]? = some v → RV M F w x v := by
    intro vs h
    obtain ⟨vals, h1, h2, h3⟩ := vresLS_run hT hC h
    refine ⟨vals, ?_, h2, h3⟩
    unfold results
    rw [← Array.toArray_toList (xs := fn.results)]
    rw [List.mapM_toArray]
    simp only [Sem.run_bind, Sem.run_pure, map_eq_pure_bind]
    erw [h1]
    rfl
  unfold vresS at h
  split at h
  · rename_i r hr
    obtain ⟨vals, h1, h2, h3⟩ := key (vs := [v]) (by rw [hr]; simp [vresLS, h])
    obtain ⟨u, rfl⟩ : ∃ u, vals = [u] := by
      match vals, h2 with
      | [u], _ => exact ⟨u, rfl⟩
    exact ⟨u, by simpa using h1, h3 0 v u rfl rfl⟩
  · rename_i hr
    split at h <;> try cases h
    rename_i vs hvs
    obtain ⟨vals, h1, h2, h3⟩ := key hvs
    have hne : vals.length ≠ 1 := by
      intro e
      have hl : vs.length = 1 := by omega
      have : fn.results.toList.length = 1 := by rw [vresLS_len hvs, hl]
      match hm : fn.results.toList, this with
      | [r], _ => exact hr r hm
    refine ⟨.tuple vals.toArray, by rw [h1]; simp [hne], .tup vs vals h2 h3⟩

def takeK : Nat → List Nat → List Nat → (List Nat → Prop) → Prop
  | 0, _, acc, K => K acc
  | _ + 1, [], acc, K => K acc
  | n + 1, x :: r, acc, K => appF acc [x] fun acc => takeK n r acc K
theorem takeK_some : ∀ {n : Nat} {l acc : List Nat} {K : List Nat → Prop}, takeK n l acc K → ∃ l, K l
  | 0, _, _, _, h => ⟨_, h⟩
  | _ + 1, [], _, _, h => ⟨_, h⟩
  | n + 1, x :: r, acc, K, h => by
    unfold takeK at h
    rw [appF_eq] at h
    exact takeK_some h
/-- What the function hands back, and the objects that it tells of. -/
def resK (T : Nat → Option TI) (rs : List ResultVar) (n : Nat) (R : AV → List (Nat × AB) → Prop) (env : Env) (s : List (Nat × AB)) : Prop := match vresS T env s rs with
  | some v => fAV 100 v fun v => takeK n lits [] fun told => occK 100 v told fun σ => reachK 50 s 0 σ fun σ => match nodupB σ && uptoB n 0 σ with
    | true => match gatherS σ s σ 0 with
      | some s2 => match v.rn (gsel σ) with
        | some v2 => fSt s2 fun s2 => fAV 100 v2 fun v2 => R v2 s2
        | none => False
      | none => False
    | false => False
  | none => False
theorem resK_get {T : Nat → Option TI} {rs : List ResultVar} {R : AV → List (Nat × AB) → Prop} (h : resK T rs n R env s) : ∃ v σ s2 v2, vresS T env s rs = some v ∧ nodupB σ = true ∧ uptoB n 0 σ = true ∧ gatherS σ s σ 0 = some s2 ∧ v.rn (gsel σ) = some v2 ∧ R v2 s2 := by
  unfold resK at h
  split at h <;> try exact h.elim
  rename_i v hv
  rw [fAV_eq] at h
  obtain ⟨told, h⟩ := takeK_some h
  obtain ⟨σ0, h⟩ := occK_some h
  obtain ⟨σ, h⟩ := reachK_some h
  split at h <;> try exact h.elim
  rename_i hn
  simp only [Bool.and_eq_true] at hn
  split at h <;> try exact h.elim
  rename_i s2 hs2
  split at h <;> try exact h.elim
  rename_i v2 hv2
  rw [fSt_eq, fAV_eq] at h
  exact ⟨v, σ, s2, v2, hv, hn.1, hn.2, hs2, hv2, h⟩
def KV (T : Nat → Option TI) (rs : List ResultVar) (n : Nat) (R : AV → List (Nat × AB) → Prop) : Exit → Env → List (Nat × AB) → Prop
  | .normal => resK T rs n R
  | .ret => resK T rs n R
  | _ => fun _ _ => False

theorem Contract.of_V (hT : TabOK P cx.T) {f : Nat} {fn : Func} {c : Code} {args : List AV} {R : AV → List (Nat × AB) → Prop} (hf : P.funcs[f]? = some fn) (hb : fn.body = some c) (hce : Callee P f) (hnt : cx.nt = fn.ntmps)
    (hle : args.length ≤ fn.ntmps) (hbel : belowB n s = true) (h : V P cx n c (argEnv 0 args) s (KV cx.T fn.results.toList n R)) : Contract P cx.G f args s R := by
  refine ⟨hce, fun g F U w vals hS hG hl hv => calls_of_wp hf hb ?_⟩
  have hgN : ∀ id, n ≤ id → g id = none := fun id hid => hS.gdom id fun ab hab => by have := belowB_get hbel id ab hab; omega
  have hC : CS cx ⟨fun _ => none, g⟩ F U [] s w (argEnv 0 args) { tmps := vals.toArray ++ Array.replicate (fn.ntmps - vals.toArray.size) Go.undef, defers := [] } := by
    refine ⟨hS, hG, fun t => ?_, by simp [hnt]; omega, rfl⟩
    rw [look_argEnv, if_pos (Nat.zero_le t)]
    rcases Nat.lt_or_ge t args.length with ht | ht
    · rw [Nat.sub_zero, List.getElem?_eq_getElem ht]
      refine hv t _ _ (List.getElem?_eq_getElem ht) ?_
      unfold slotv
      simp only [Array.getD_eq_getD_getElem?]
      rw [Array.getElem?_append_left (by simp; omega)]
      simp [List.getElem?_eq_getElem (show t < vals.length by omega)]
    · rw [Nat.sub_zero, List.getElem?_eq_none ht]
      exact .undef _
  refine wp_mono (h.h ⟨w, g, F, U, s⟩ _ w ⟨fun _ => none, g⟩ F U hgN hC ⟨fun _ _ h => h, fun _ h => h, fun _ h => h, fun b hb => .inl hb, .refl _ _, fun k b h => by simp at h, fun id ab b h1 h2 h3 => .inr ⟨id, ab, h1, h2, h3⟩, fun id ab h => .inl ⟨ab, h⟩⟩) ?_
  intro e a' w' hq
  obtain ⟨env', s', M', F', U', hK, hC', hZ'⟩ := hq
  have fin : resK cx.T fn.results.toList n R env' s' → a'.defers = [] ∧ ∃ v, (results fn a'.tmps).run P w' = .ok v w' ∧ ∃ v' res s' g' F' U', (Ending.returned v) = .returned v' ∧ R res s' ∧ (∀ id b, g id = some b → g' id = some b) ∧ (∀ id ab, (id, ab) ∈ s' → (∃ ab0, (id, ab0) ∈ s) ∨ g id = none) ∧
      (∀ b, F b → F' b) ∧ (∀ b, U b → U' b) ∧ (∀ b, F' b → F b ∨ w.heap.size ≤ b ∨ LiveG g s b) ∧ Ext U w w' ∧ St ⟨fun _ => none, g'⟩ F' U' [] s' w' ∧ RV ⟨fun _ => none, g'⟩ F' w' res v' := by
    intro hr
    obtain ⟨v, σ, s2, v2, hv, h1, h2, h3, h4, hR⟩ := resK_get hr
    obtain ⟨val, hrun, hrv⟩ := vresS_run hT hC' hv
    obtain ⟨M2, F2, U2, hC2, hZ2⟩ := GV.gather_M σ h3 h1 h2 ⟨w, g, F, U, s⟩ a' w' M' F' U' hgN hC' hZ'
    obtain ⟨hCC, e1, e2, e3⟩ := hC2
    rw [e1, e2, e3] at hCC hZ2
    exact ⟨hC'.defers, val, hrun, val, v2, s2, (M'.gath σ).g, F', U', rfl, hR, hZ2.g, hZ2.ids, hZ2.FF, hZ2.UU, hZ2.Fn, hZ2.ext, hCC.st, hrv.rn (via_gsel' M' σ) h4⟩
  cases e with
  | normal => exact fin hK
  | ret => exact fin hK
  | _ => exact hK.elim
theorem Contract.of_v (hT : TabOK P cx.T) (hm : P.follows .mixedOrders = true) {f : Nat} {fn : Func} {c : Code} {args : List AV} {R : AV → List (Nat × AB) → Prop} {kt : List (Nat × Nat)} (hf : P.funcs[f]? = some fn) (hb : fn.body = some c) (hce : Callee P f) (hnt : cx.nt = fn.ntmps) (hok : okCode kt c = true)
    (hle : args.length ≤ fn.ntmps) (hbel : belowB n s = true) (h : vc P cx n kt c (argEnv 0 args) s (KV cx.T fn.results.toList n R)) : Contract P cx.G f args s R :=
  Contract.of_V hT hf hb hce hnt hle hbel (vc_sound hT hm hok h)
/-- As 'KV'; told otherwise at the end. -/
def KG (cx : Ctx) (rs : List ResultVar) (n : Nat) (R : AV → List (Nat × AB) → Prop) : Exit → Env → List (Nat × AB) → Prop
  | .normal => fun env s => ∃ env' s', GV cx n env [] s env' s' ∧ resK cx.T rs n R env' s'
  | .ret => fun env s => ∃ env' s', GV cx n env [] s env' s' ∧ resK cx.T rs n R env' s'
  | _ => fun _ _ => False
theorem Contract.of_vG (hT : TabOK P cx.T) (hm : P.follows .mixedOrders = true) {f : Nat} {fn : Func} {c : Code} {args : List AV} {R : AV → List (Nat × AB) → Prop} {kt : List (Nat × Nat)} (hf : P.funcs[f]? = some fn) (hb : fn.body = some c) (hce : Callee P f) (hnt : cx.nt = fn.ntmps) (hok : okCode kt c = true)
    (hle : args.length ≤ fn.ntmps) (hbel : belowB n s = true) (h : vc P cx n kt c (argEnv 0 args) s (KG cx fn.results.toList n R)) : Contract P cx.G f args s R :=
  Contract.of_V hT hf hb hce hnt hle hbel ((vc_sound hT hm hok h).gpost fun e env s hk => by
    cases e with
    | normal => exact hk
    | ret => exact hk
    | _ => exact hk.elim)
/-- A round's body, told as it stands. -/
theorem V.of {kt : List (Nat × Nat)} {c : Code} {K : Exit → Env → List (Nat × AB) → Prop} (hT : TabOK P cx.T) (hm : P.follows .mixedOrders = true) (hok : okCode kt c = true) (h : vc P cx n kt c env s K) : V P cx n c env s K := vc_sound hT hm hok h
end
end Go.Pv
/- A table of types, told entry by entry. -/
namespace Go.Pv
open Go.RowKit

def tabOf : List (Nat × TI) → Nat → Option TI
  | [], _ => none
  | (t, ti) :: r, x => match Nat.beq t x with
    | true => some ti
    | false => tabOf r x
def aggOf : TypeDesc → Bool
  | .struct _ => true
  | .array _ _ => true
  | _ => false
/-- One entry. -/
def TabEnt (P : Program) (t : Nat) (ti : TI) : Prop := P.underlying t = some ti.u ∧ ti.agg = aggOf ti.u ∧
  ∃ i z, P.info? t = some i ∧ i.size = ti.size ∧ i.bytes = ti.bytes ∧ i.zero = some z ∧ ti.zero.map dconst = z.cells.toList.map some ∧ z.cells.toList.length = ti.size ∧
    (match ti.agg with
      | true => z = .agg z.cells.toList.toArray
      | false => z.cells.toList = [z] ∧ z.oneCell' = true)
theorem TabEnt.mk' {P : Program} {t : Nat} {ti : TI} (i : TypeInfo) (z : Value) (h1 : P.underlying t = some ti.u) (h2 : ti.agg = aggOf ti.u) (h3 : P.info? t = some i) (h4 : i.size = ti.size) (h5 : i.bytes = ti.bytes) (h6 : i.zero = some z) (h7 : ti.zero.map dconst = z.cells.toList.map some)
    (h8 : z.cells.toList.length = ti.size) (h9 : match ti.agg with
      | true => z = .agg z.cells.toList.toArray
      | false => z.cells.toList = [z] ∧ z.oneCell' = true) : TabEnt P t ti := ⟨h1, h2, i, z, h3, h4, h5, h6, h7, h8, h9⟩
theorem TabOK.nil {P : Program} : TabOK P (tabOf []) := fun t ti h => by simp [tabOf] at h
theorem TabOK.cons {P : Program} {t : Nat} {ti : TI} {r : List (Nat × TI)} (h : TabEnt P t ti) (hr : TabOK P (tabOf r)) : TabOK P (tabOf ((t, ti) :: r)) := by
  intro x ti' hx
  simp only [tabOf] at hx
  split at hx
  · rename_i he
    have := beq_t he
    subst this
    cases hx
    obtain ⟨h1, h2, i, z, h3, h4, h5, h6, h7, h8, h9⟩ := h
    refine ⟨h1, ?_, i, z, z.cells.toList, h3, h4, h5, h6, by simp, h7, h8, fun ha => ?_, fun ha => ?_⟩
    · rw [h2]
      cases ti.u <;> simp [aggOf]
    · rw [ha] at h9; exact h9
    · rw [ha] at h9; exact h9
  · exact hr x ti' hx
end Go.Pv
/- A law's row: its arguments as data, its answer, what it leaves as it was. -/
namespace Go.Pv
open Go.RowKit Go.ChangeShapes Go.WideShapes Go.Deep

/-- Data of a type, cell by cell. -/
def Dat (T : Nat → Option TI) : Nat → Nat → List DV → Prop
  | 0, _, _ => False
  | n + 1, t, xs => match T t with
    | some ti => match ti.u with
      | .int k => ∃ m : Int, k.min ≤ m ∧ m ≤ k.max ∧ xs = [.int k m]
      | .bool => ∃ b, xs = [.bool b]
      | .string => ∃ s : ByteArray, s.size ≤ maxLen ∧ xs = [.str s]
      | .slice e => match T e with
        | some te => xs = [.nil] ∨ ∃ rows, rows.length ≤ maxLen ∧ (∀ r ∈ rows, Dat T n e r) ∧ xs = [.list te.size rows]
        | none => False
      | .struct fs => fs.toList.foldr (fun f (k : List DV → Prop) xs => ∃ a b, xs = a ++ b ∧ Dat T n f.type a ∧ k b) (fun xs => xs = []) xs
      | _ => False
    | none => False

/-- Types that are data. -/
def datT (T : Nat → Option TI) : Nat → Nat → Bool
  | 0, _ => false
  | n + 1, t => match T t with
    | some ti => match ti.u with
      | .int _ => true
      | .bool => true
      | .string => true
      | .slice e => match T e with
        | some te => (match te.size with
          | 0 => false
          | _ + 1 => true) && datT T n e
        | none => false
      | .struct fs => (fs.toList.foldr (fun f (k : Nat → Bool) off => Nat.beq f.offset off && (match T f.type with
          | some tf => datT T n f.type && k (off + tf.size)
          | none => false)) (fun off => Nat.beq off ti.size)) 0
      | _ => false
    | none => false

section
variable {H : Type} {enc : TypeId × Value → H} {P : Program} {T : Nat → Option TI} {w : World} {base : Nat} {spare : Nat → Bool} {held : Bool}

theorem cell_lt {w : World} {a : Addr} {v : Value} (h : w.cell? a = some v) : a.block < w.heap.size := by
  unfold World.cell? at h
  rcases Nat.lt_or_ge a.block w.heap.size with h1 | h1
  · exact h1
  · rw [Array.getElem?_eq_none h1] at h; cases h

theorem cellsOf_tab (hT : TabOK P T) {t : Nat} {ti : TI} (ht : T t = some ti) : P.cellsOf t = ti.size := by
  obtain ⟨_, _, i, z, zs, h3, h4, _⟩ := hT t ti ht
  unfold Program.cellsOf
  rw [h3]
  simp [h4]

/-- What reads as data is data. -/
theorem trod_dat (hT : TabOK P T) : ∀ (n : Nat) (t : Nat) (cs : List Value) (fuel : Nat) (x : DataW H × List MemPlace), datT T n t = true → DataW.trod enc P w base spare held fuel t cs = some x →
    ∃ xs, Dat T n t xs ∧ xs.length = cs.length ∧ ∀ (j : Nat) (y : DV) (v : Value), xs[j]? = some y → cs[j]? = some v → RD (fun b => b < w.heap.size) w y v
  | 0, t, cs, fuel, x, h, _ => by simp [datT] at h
  | n + 1, t, cs, fuel, x, h, hx => by
    simp only [datT] at h
    simp only [Dat]
    cases hti : T t with
    | none => rw [hti] at h; cases h
    | some ti =>
      rw [hti] at h
      simp only at h ⊢
      have hu := (hT t ti hti).1
      have one : ∀ (y : DV) (v : Value), RD (fun b => b < w.heap.size) w y v → ∀ (j : Nat) (y' : DV) (v' : Value), [y][j]? = some y' → [v][j]? = some v' → RD (fun b => b < w.heap.size) w y' v' := by
        intro y v h j y' v' hy hv
        match j, hy, hv with
        | 0, hy, hv => simp at hy hv; subst hy; subst hv; exact h
        | j + 1, hy, hv => simp at hy
      cases hti2 : ti.u <;> rw [hti2] at h hu <;> simp only at h ⊢ <;> try (cases h; done)
      case bool =>
        obtain ⟨b, rfl, _⟩ := DataW.trod_bool hu hx
        exact ⟨_, ⟨b, rfl⟩, rfl, one _ _ (.bool b)⟩
      case int k =>
        obtain ⟨m, rfl, _, hw⟩ := DataW.trod_int hu hx
        simp only [Lit.wf, Bool.and_eq_true, decide_eq_true_eq] at hw
        exact ⟨_, ⟨m, hw.1, hw.2, rfl⟩, rfl, one _ _ (.int k m)⟩
      case string =>
        obtain ⟨s, rfl, _, hs⟩ := DataW.trod_string hu hx
        exact ⟨_, ⟨s, by omega, rfl⟩, rfl, one _ _ (.str s)⟩
      case slice e =>
        cases hte : T e with
        | none => rw [hte] at h; cases h
        | some te =>
          rw [hte] at h
          simp only [Bool.and_eq_true] at h ⊢
          obtain ⟨h0, h⟩ := h
          have hsz : te.size ≠ 0 := by
            intro e
            rw [e] at h0
            cases h0
          rcases open_slice hu hx with ⟨rfl, _⟩ | ⟨a, len, cap, m, k, D, Pl, rfl, hb, hl, hc, hm, _, hi⟩
          · exact ⟨_, .inl rfl, rfl, one _ _ .nil⟩
          · have hlm : len ≤ m := by rw [hm]; split <;> omega
            rw [cellsOf_tab hT hte] at hi
            have hel : ∀ i : Nat, ∃ r : List DV, i < len → (Dat T n e r ∧ r.length = te.size ∧ ∀ j, j < te.size → ∃ v y, w.cell? (a.add (i * te.size + j)) = some v ∧ r[j]? = some y ∧ RD (fun b => b < w.heap.size) w y v) := by
              intro i
              by_cases hil : i < len
              · obtain ⟨cs', hcs, htr⟩ := hi i (by omega)
                obtain ⟨_, hcl, hat⟩ := World.cells?_some hcs
                obtain ⟨r, h1, h2, h3⟩ := trod_dat hT n e cs' k _ h htr
                refine ⟨r, fun _ => ⟨h1, by omega, fun j hj => ?_⟩⟩
                have hj1 : j < cs'.length := by omega
                have hj2 : j < r.length := by omega
                refine ⟨cs'[j], r[j], ?_, List.getElem?_eq_getElem hj2, h3 j _ _ (List.getElem?_eq_getElem hj2) (List.getElem?_eq_getElem hj1)⟩
                rw [← add_of_add, hat j hj, List.getElem?_eq_getElem hj1]
              · exact ⟨[], fun h => absurd h hil⟩
            obtain ⟨R, hR⟩ := Classical.axiomOfChoice hel
            have hget : ∀ (i : Nat) (r : List DV), ((List.range len).map R)[i]? = some r → i < len ∧ r = R i := by
              intro i r hr
              rw [List.getElem?_map] at hr
              obtain ⟨i', hi', rfl⟩ := Option.map_eq_some_iff.1 hr
              have h1 := List.getElem?_eq_some_iff.1 hi'
              obtain ⟨h1, h2⟩ := h1
              simp at h1 h2
              subst h2
              exact ⟨h1, rfl⟩
            refine ⟨_, .inr ⟨(List.range len).map R, by simp; omega, fun r hr => ?_, rfl⟩, rfl, one _ _ ?_⟩
            · obtain ⟨i, hi', rfl⟩ := List.mem_map.1 hr
              exact (hR i (by simpa using hi')).1
            · by_cases hz : len = 0
              · subst hz
                simp only [List.range_zero, List.map_nil]
                exact .empty _ _ _
              · have hrl : ((List.range len).map R).length = len := by simp
                have := RD.list (N := fun b => b < w.heap.size) (w := w) te.size ((List.range len).map R) a cap (fun i j => (w.cell? (a.add (i * te.size + j))).getD Go.undef) (by rw [hrl]; exact hl) (by
                    obtain ⟨v, y, hv, _⟩ := (hR 0 (by omega)).2.2 0 (by omega)
                    have := cell_lt hv
                    rwa [block_of_add] at this) (fun i r hr => by
                    obtain ⟨h1, rfl⟩ := hget i r hr
                    exact (hR i h1).2.1) (fun i j hi' hj => by
                    obtain ⟨v, y, hv, _⟩ := (hR i (by omega)).2.2 j hj
                    simp [hv]) (fun i r hr j y hy => by
                    obtain ⟨h1, rfl⟩ := hget i r hr
                    have hj : j < te.size := by
                      have := (List.getElem?_eq_some_iff.1 hy).1
                      have := (hR i h1).2.1
                      omega
                    obtain ⟨v, y', hv, hy', hrd⟩ := (hR i h1).2.2 j hj
                    rw [hy] at hy'
                    cases hy'
                    simp only [hv, Option.getD_some]
                    exact hrd)
                rw [hrl] at this
                exact this
      case struct fs =>
        obtain ⟨ys, m, _, _, hcl, _, hf⟩ := DataW.trod_struct hu hx
        rw [cellsOf_tab hT hti] at hcl
        have hf' : ∀ f ∈ fs.toList, ∃ y, DataW.trod enc P w base spare held m f.type ((cs.drop f.offset).take (P.cellsOf f.type)) = some y := by
          intro f hfm
          obtain ⟨i, hi⟩ := List.mem_iff_getElem?.1 hfm
          have h1 := hf i f (by simpa using hi)
          have hi2 : i < ys.length := by
            have := (List.getElem?_eq_some_iff.1 hi).1
            simp at this
            omega
          exact ⟨ys[i], by rw [h1, List.getElem?_eq_getElem hi2]⟩
        have key : ∀ (l : List Field) (off : Nat), (∀ f ∈ l, ∃ y, DataW.trod enc P w base spare held m f.type ((cs.drop f.offset).take (P.cellsOf f.type)) = some y) →
            (l.foldr (fun f (k : Nat → Bool) off => Nat.beq f.offset off && (match T f.type with
              | some tf => datT T n f.type && k (off + tf.size)
              | none => false)) (fun off => Nat.beq off ti.size)) off = true → off ≤ cs.length →
            ∃ xs, (l.foldr (fun f (k : List DV → Prop) xs => ∃ a b, xs = a ++ b ∧ Dat T n f.type a ∧ k b) (fun xs => xs = [])) xs ∧ xs.length = cs.length - off ∧ ∀ (j : Nat) (y : DV) (v : Value), xs[j]? = some y → cs[off + j]? = some v → RD (fun b => b < w.heap.size) w y v := by
          intro l
          induction l with
          | nil =>
            intro off _ hb hle
            simp only [List.foldr_nil] at hb
            have := Nat.eq_of_beq_eq_true hb
            exact ⟨[], rfl, by simp; omega, fun j y v hy => by simp at hy⟩
          | cons f l ih =>
            intro off hfs hb hle
            simp only [List.foldr_cons, Bool.and_eq_true] at hb
            obtain ⟨hb1, hb2⟩ := hb
            have hb1 := Nat.eq_of_beq_eq_true hb1
            split at hb2 <;> try cases hb2
            rename_i tf htf
            simp only [Bool.and_eq_true] at hb2
            obtain ⟨y, hy⟩ := hfs f (by simp)
            obtain ⟨a, ha1, ha2, ha3⟩ := trod_dat hT n f.type _ m y hb2.1 hy
            have hlen : a.length = tf.size := by
              -- the reading speaks of as many cells as the type has
              have hall := hb2.2
              have hge : off + tf.size ≤ cs.length := by
                have hmono : ∀ (l : List Field) (off : Nat), (l.foldr (fun f (k : Nat → Bool) off => Nat.beq f.offset off && (match T f.type with
                    | some tf => datT T n f.type && k (off + tf.size)
                    | none => false)) (fun off => Nat.beq off ti.size)) off = true → off ≤ ti.size := by
                  intro l
                  induction l with
                  | nil =>
                    intro off h
                    simp only [List.foldr_nil] at h
                    exact Nat.le_of_eq (Nat.eq_of_beq_eq_true h)
                  | cons g l ih2 =>
                    intro off h
                    simp only [List.foldr_cons, Bool.and_eq_true] at h
                    obtain ⟨_, h⟩ := h
                    split at h <;> try cases h
                    simp only [Bool.and_eq_true] at h
                    have := ih2 _ h.2
                    omega
                have := hmono l _ hall
                omega
              rw [ha2, cellsOf_tab hT htf]
              simp
              omega
            have hle2 : off + tf.size ≤ cs.length := by
              rw [ha2, cellsOf_tab hT htf] at hlen
              simp at hlen
              by_cases h0 : tf.size = 0
              · omega
              · omega
            obtain ⟨b, hb1', hb2', hb3'⟩ := ih (off + tf.size) (fun g hg => hfs g (by simp [hg])) hb2.2 hle2
            refine ⟨a ++ b, ?_, by simp [hlen, hb2']; omega, fun j y' v hy' hv => ?_⟩
            · simp only [List.foldr_cons]
              exact ⟨a, b, rfl, ha1, hb1'⟩
            · by_cases hj : j < a.length
              · rw [List.getElem?_append_left hj] at hy'
                refine ha3 j y' v hy' ?_
                rw [List.getElem?_take, if_pos (by rw [cellsOf_tab hT htf]; omega), List.getElem?_drop, hb1]
                exact hv
              · rw [List.getElem?_append_right (by omega)] at hy'
                refine hb3' (j - a.length) y' v hy' ?_
                rw [← hv]
                congr 1
                omega
        obtain ⟨xs, h1, h2, h3⟩ := key fs.toList 0 hf' h (Nat.zero_le _)
        exact ⟨xs, h1, by simpa using h2, fun j y v hy hv => h3 j y v hy (by simpa using hv)⟩
end
end Go.Pv
/- A law that answers true, whatever its input: its row, of its contract. -/
namespace Go.Pv
open Go.RowKit Go.ChangeShapes Go.WideShapes

/-- An argument of a type that is data. -/
def ArgD (T : Nat → Option TI) (n t : Nat) (x : AV) : Prop := match T t with
  | some ti => match ti.agg with
    | true => ∃ xs, Dat T n t xs ∧ x = .agg (xs.map .d)
    | false => ∃ y, Dat T n t [y] ∧ x = .d y
  | none => False
def ArgsD (T : Nat → Option TI) (n : Nat) : List Nat → List AV → Prop
  | [], xs => xs = []
  | t :: ts, xs => ∃ x r, xs = x :: r ∧ ArgD T n t x ∧ ArgsD T n ts r
def datTs (T : Nat → Option TI) (n : Nat) : List Nat → Bool
  | [] => true
  | t :: r => datT T n t && datTs T n r

section
variable {H : Type} {enc : TypeId × Value → H} {P : Program} {T : Nat → Option TI} {w : World} {base : Nat} {spare : Nat → Bool} {held : Bool}

theorem okWide_plain (hT : TabOK P T) {n t : Nat} {ti : TI} (ht : T t = some ti) (hd : datT T n t = true) {r : Reach} {b0 : Nat} {v : Value} (h : Value.okWide P w r b0 t v) : (ti.agg = true → ∃ cs, v = .agg cs) ∧ (ti.agg = false → v.cells = #[v]) := by
  obtain ⟨hu, hag, _⟩ := hT t ti ht
  cases n with
  | zero => simp [datT] at hd
  | succ n =>
    simp only [datT, ht] at hd
    cases hti : ti.u <;> rw [hti] at hd hu hag <;> simp only at hd <;> try (cases hd; done)
    case int k =>
      obtain ⟨m, rfl⟩ := okWide_int hu h
      exact ⟨fun e => by simp [e] at hag, fun _ => rfl⟩
    case bool =>
      obtain ⟨m, rfl⟩ := okWide_bool hu h
      exact ⟨fun e => by simp [e] at hag, fun _ => rfl⟩
    case string =>
      refine ⟨fun e => by simp [e] at hag, fun _ => ?_⟩
      simp only [Value.okWide, hu, Cell.okWide] at h
      cases v <;> simp_all [Cell.ok, Value.cells]
    case slice e =>
      refine ⟨fun e => by simp [e] at hag, fun _ => ?_⟩
      simp only [Value.okWide, hu, Cell.okWide] at h
      cases v <;> simp_all [Cell.ok, Value.cells]
    case struct fs =>
      refine ⟨fun _ => ?_, fun e => ?_⟩
      · simp only [Value.okWide, hu] at h
        obtain ⟨cs, h, _⟩ := h
        exact ⟨cs, h⟩
      · rw [hag.2 (.inl ⟨fs, rfl⟩)] at e; cases e

theorem arg_rv (hT : TabOK P T) {n t : Nat} (hd : datT T n t = true) {r : Reach} {b0 : Nat} {v : Value} {d : DataW H} {ps : List MemPlace} (hok : Value.okWide P w r b0 t v) (h : DataW.Trod enc P w base spare held t v d ps) :
    ∃ x, ArgD T n t x ∧ ∀ M, RV M (fun b => b < w.heap.size) w x v := by
  obtain ⟨fuel, h⟩ := h
  obtain ⟨xs, h1, h2, h3⟩ := trod_dat hT n t _ fuel _ hd h
  have : ∃ ti, T t = some ti := by
    cases n with
    | zero => simp [datT] at hd
    | succ n =>
      cases ht : T t with
      | none => simp [datT, ht] at hd
      | some ti => exact ⟨ti, rfl⟩
  obtain ⟨ti, ht⟩ := this
  obtain ⟨k1, k2⟩ := okWide_plain hT ht hd hok
  unfold ArgD
  rw [ht]
  simp only
  cases hag : ti.agg with
  | true =>
    obtain ⟨cs, rfl⟩ := k1 hag
    refine ⟨_, ⟨xs, h1, rfl⟩, fun M => ?_⟩
    have := RV.agg (M := M) (F := fun b => b < w.heap.size) (w := w) (xs.map AV.d) cs.toList (by simp [Value.cells] at h2; simp [h2]) (fun j u hu => by
      have hj := (List.getElem?_eq_some_iff.1 hu).1
      have hj2 : j < xs.length := by simp [Value.cells] at h2; simp at hj; omega
      exact (h3 j _ u (List.getElem?_eq_getElem hj2) (by simpa [Value.cells] using hu)).oneCell) (fun j x u hx hu => by
      rw [List.getElem?_map] at hx
      obtain ⟨y, hy, rfl⟩ := Option.map_eq_some_iff.1 hx
      exact .d (h3 j y u hy (by simpa [Value.cells] using hu)))
    simpa using this
  | false =>
    have hc := k2 hag
    rw [hc] at h2 h3
    match xs, h2, h1, h3 with
    | [y], _, h1, h3 => exact ⟨_, ⟨y, h1, rfl⟩, fun M => .d (h3 0 y v rfl rfl)⟩

theorem args_rv (hT : TabOK P T) {n : Nat} : ∀ (ts : List TypeId) (vs : List Value) (ds : List (DataW H)) (ps : List MemPlace), datTs T n ts = true →
    (∀ (j : Nat) t v, ts[j]? = some t → vs[j]? = some v → ∃ r b0, Value.okWide P w r b0 t v) → DataW.TrodAll enc P w base spare held ts vs ds ps →
    ∃ xs, ArgsD T n ts xs ∧ xs.length = vs.length ∧ ∀ (j : Nat) (x : AV) (v : Value), xs[j]? = some x → vs[j]? = some v → ∀ M, RV M (fun b => b < w.heap.size) w x v
  | [], vs, ds, ps, _, _, h => by
    obtain ⟨rfl, _, _⟩ := trodAll_nil h
    exact ⟨[], rfl, rfl, fun j x v hx => by simp at hx⟩
  | t :: ts, vs, ds, ps, hd, hok, h => by
    obtain ⟨v, vs', d, ds', p, q, rfl, rfl, rfl, h1, h2⟩ := trodAll_cons h
    simp only [datTs, Bool.and_eq_true] at hd
    obtain ⟨r, b0, hv⟩ := hok 0 t v rfl rfl
    obtain ⟨x, hx1, hx2⟩ := arg_rv hT hd.1 hv h1
    obtain ⟨xs, k1, k2, k3⟩ := args_rv hT ts vs' ds' q hd.2 (fun j t v ht hv => hok (j + 1) t v (by simpa using ht) (by simpa using hv)) h2
    refine ⟨x :: xs, ⟨x, xs, rfl, hx1, k1⟩, by simp [k2], fun j y u hy hu => ?_⟩
    cases j with
    | zero => simp at hy hu; subst hy; subst hu; exact hx2
    | succ j => exact k3 j y u (by simpa using hy) (by simpa using hu)

theorem trodAll_below (hl : laidOutB P = true) {W W' : World} (hb : Below W.heap.size W W') {sp : Nat → Bool} (hsp : ∀ b, b < W.heap.size → sp b = true) : ∀ (ts : List TypeId) (vs : List Value) (ds : List (DataW H)) (ps : List MemPlace), (ts.all fun t => P.readableRec t && decide (t < P.types.size)) = true →
    (∀ x ∈ ps, x.block < W.heap.size) → DataW.TrodAll enc P W 0 (fun _ => true) true ts vs ds ps → DataW.TrodAll enc P W' 0 sp true ts vs ds ps
  | [], vs, ds, ps, _, _, h => by
    obtain ⟨rfl, rfl, rfl⟩ := trodAll_nil h
    exact trodAll_mk0
  | t :: ts, vs, ds, ps, hr, hlt, h => by
    obtain ⟨v, vs', d, ds', p, q, rfl, rfl, rfl, h1, h2⟩ := trodAll_cons h
    simp only [List.all_cons, Bool.and_eq_true, decide_eq_true_eq] at hr
    exact ⟨p, q, WideElems.Trod_stays hl hr.1.1 hr.1.2 h1 (fun x hx => hb.same (hlt x (by simp [hx]))) (fun x hx => hsp _ (hlt x (by simp [hx]))), trodAll_below hl hb hsp ts vs' ds' q (by simpa using hr.2) (fun x hx => hlt x (by simp [hx])) h2, rfl⟩

/-- The law's call. -/
theorem law_calls (hT : TabOK P T) {G : Gl} (hG : ∀ g, G g = none) {n f : Nat} {fn : Func} {s : ChangeSpec} {apart fresh handsOn again : Bool} {tb : TypeId} (hl : laidOutB P = true) (hres : fn.resultTypes = #[tb]) (htb : P.underlying tb = some .bool) (hdat : datTs T n fn.params.toList = true)
    (hr : (fn.params.toList.all fun t => P.readableRec t && decide (t < P.types.size)) = true) (hvars : s.vars = [])
    (hspec : ∀ ds : List (DataW H), ds.length = fn.params.size → s.fn H ds = { results := [.lit (.bool true)], args := ds })
    (hC : ∀ xs, ArgsD T n fn.params.toList xs → Contract P G f xs [] (fun r t => r = .d (.bool true) ∧ t = []))
    {W : World} {base : Nat} {args : Array Value} {ds gs : List (DataW H)} {before : List MemPlace}
    (hval : ∀ (j : Nat) t v, fn.params[j]? = some t → args[j]? = some v → Value.okWide P W .any base t v)
    (hW : DataW.Whole enc P fn.params.toList s.vars apart W args.toList ds gs before) : Calls P f args W fun e W' => ∃ v, e = .returned v ∧ s.post enc P fn apart fresh handsOn again W args v W' := by
  have hlt := hW.lt
  have hW0 := hW
  obtain ⟨p, q, hA, hV, rfl, hfz, hnd⟩ := hW
  rw [hvars] at hV
  obtain ⟨rfl, rfl⟩ := trodVars_none hV
  simp only [List.append_nil] at hlt hW0 hfz hnd
  obtain ⟨xs, h1, h2, h3⟩ := args_rv hT fn.params.toList args.toList ds p hdat (fun j t v ht hv => ⟨_, _, hval j t v (by simpa using ht) (by simpa using hv)⟩) hA
  have hdl : ds.length = fn.params.size := by
    have : ∀ (ts : List TypeId) (vs : List Value) (ds : List (DataW H)) (ps : List MemPlace), DataW.TrodAll enc P W 0 (fun _ => true) true ts vs ds ps → ds.length = ts.length := by
      intro ts
      induction ts with
      | nil => intro vs ds ps h; obtain ⟨_, rfl, _⟩ := trodAll_nil h; rfl
      | cons t ts ih =>
        intro vs ds ps h
        obtain ⟨v, vs', d, ds', p, q, rfl, rfl, rfl, _, h⟩ := trodAll_cons h
        simp [ih vs' ds' q h]
    rw [this _ _ _ _ hA]
    simp
  have hS : St ⟨fun _ => none, fun _ => none⟩ (fun b => b < W.heap.size) (fun b => b < W.heap.size) [] [] W :=
    ⟨fun r ab b hr hm => by cases r <;> simp [Here] at hr, fun r r' a1 a2 b hr => by cases r <;> simp [Here] at hr, fun r ab b hr => by cases r <;> simp [Here] at hr, .nil, fun b h => h, fun b h => h, fun _ _ => rfl, fun id ab h => (by simp at h), fun _ _ => rfl⟩
  have := (hC xs h1).2 (fun _ => none) (fun b => b < W.heap.size) (fun b => b < W.heap.size) W args.toList hS (fun g cs hg => by rw [hG g] at hg; cases hg) h2.symm (fun j x v hx hv => h3 j x v hx hv _)
  simp only [Array.toArray_toList] at this
  refine this.mono ?_
  rintro e W' ⟨v, res, s', g', F', U', rfl, ⟨rfl, rfl⟩, _, _, _, _, _, hX, _, hrv⟩
  have hv := hrv.bool_inv
  subst hv
  have hb : Below W.heap.size W W' := ⟨hX.os, hX.tape, hX.output, hX.size, hX.block⟩
  have htrue : ∀ (b : Nat) (sp : Nat → Bool) (hd : Bool), DataW.TrodAll enc P W' b sp hd fn.resultTypes.toList ((Value.bool true).resultList fn.resultTypes.size) [.lit (.bool true)] [] := by
    intro b sp hd
    rw [hres]
    exact trodAll_mk1 (shut_bool htb true)
  have hargs := trodAll_below hl hb (sp := fun b => decide (b < W.heap.size)) (fun b h => by simpa using h) fn.params.toList args.toList ds p hr hlt hA
  refine ⟨_, rfl, ds, [], p, [], p, [], hW0, ?_, ?_, ?_, hb.frame _, fun _ => ⟨ok_one (t := tb) hres rfl (okWide_bool_mk htb true), .lit (.bool true) :: ds, [], p, ⟨p, [], ?_, by rw [hvars]; exact rfl, by simp, ?_, hnd⟩, fun x hx _ => hx⟩⟩
  · rw [List.append_nil, hspec ds hdl]
    exact htrue _ _ _
  · rw [List.append_nil, hspec ds hdl]
    exact hargs
  · have : (s.fn H (ds ++ [])).vars = [] := by rw [List.append_nil, hspec ds hdl]
    rw [this, hvars]
    exact rfl
  · have h1 := htrue 0 (fun _ => true) true
    have h2 : DataW.TrodAll enc P W' 0 (fun _ => true) true fn.params.toList args.toList ds p := trodAll_below hl hb (fun _ _ => rfl) fn.params.toList args.toList ds p hr hlt hA
    rw [hres] at h1 ⊢
    exact trodAll_append h2 h1
  · intro b off hp
    rw [hb.frozen (p := ⟨b, off, none⟩) (hlt _ hp)]
    exact hfz b off hp
end
end Go.Pv
/- A slot that is nil, or an empty literal, told as the empty list. -/
namespace Go.Pv
open Go.RowKit
variable {P : Program} {cx : Ctx} {n : Nat} {env : Env} {s : List (Nat × AB)}
def wkV (sz : Nat) : AV → AV
  | .d .nil => .d (.list sz [])
  | .d .emp => .d (.list sz [])
  | v => v
theorem wkV_rv {M : Mp} {F : Nat → Prop} {w : World} {x : AV} {v : Value} (sz : Nat) (h : RV M F w x v) : RV M F w (wkV sz x) v := by
  have one : ∀ {x y : AV}, WkL [x] [y] → RV M F w x v → RV M F w y v := fun hw h =>
    hw.rv (vals := [v]) (fun j x u hx hu => by
      cases j with
      | zero => simp at hx hu; subst hx; subst hu; exact h
      | succ j => simp at hx) 0 _ v rfl rfl
  unfold wkV
  split
  · exact one (.n sz .nil) h
  · exact one (.e sz .nil) h
  · exact h
def wkE (t0 sz : Nat) : Env → Env
  | [] => []
  | (t, v) :: r => (t, match Nat.beq t0 t with
    | true => wkV sz v
    | false => v) :: wkE t0 sz r
theorem GV.wk (t0 sz : Nat) : GV cx n env [] s (wkE t0 sz env) s := by
  intro z a w M F U _ hC hZ
  refine ⟨M, F, U, ⟨hC.st, hC.gl, fun t => ?_, hC.size, hC.defers⟩, hZ⟩
  have key : ∀ {env : Env} {u : Value}, RV M F w (look env t) u → RV M F w (look (wkE t0 sz env) t) u := by
    intro env
    induction env with
    | nil => intro u _; exact .undef _
    | cons x r ih =>
      obtain ⟨i, y⟩ := x
      intro u h
      simp only [wkE, look] at h ⊢
      split
      · rename_i hb
        rw [hb] at h
        split
        · exact wkV_rv sz h
        · exact h
      · rename_i hb
        rw [hb] at h
        exact ih h
  exact key (hC.env t)
theorem Contract.wk {G : Gl} {f : Nat} {args args' : List AV} {R : AV → List (Nat × AB) → Prop} (h : Contract P G f args' s R) (hw : WkL args args') : Contract P G f args s R :=
  ⟨h.1, fun g F U w vals hS hG hl hv => h.2 g F U w vals hS hG (by rw [hl, hw.len]) (hw.rv hv)⟩
/-- A slice of ints that came in. -/
theorem arg_ints {T : Nat → Option TI} {n t e : Nat} {ti te : TI} {x : AV} (ht : T t = some ti) (hu : ti.u = .slice e) (ha : ti.agg = false) (he : T e = some te) (hk : te.u = .int .i64) (hsz : te.size = 1) (h : ArgD T (n + 2) t x) :
    ∃ ms : List Int, ms.length ≤ maxLen ∧ (∀ m ∈ ms, IntKind.min .i64 ≤ m ∧ m ≤ IntKind.max .i64) ∧ ∀ {r r' : List AV}, WkL r r' → WkL (x :: r) (.d (.list 1 (ms.map fun m => [.int .i64 m])) :: r') := by
  simp only [ArgD, ht, ha] at h
  obtain ⟨y, h, rfl⟩ := h
  simp only [Dat, ht, hu, he] at h
  rcases h with h | ⟨rows, h1, h2, h⟩
  · cases h
    exact ⟨[], by simp, by simp, fun hw => .n 1 hw⟩
  · cases h
    have : ∃ ms : List Int, rows = ms.map (fun m => [DV.int .i64 m]) ∧ ∀ m ∈ ms, IntKind.min .i64 ≤ m ∧ m ≤ IntKind.max .i64 := by
      clear h1
      induction rows with
      | nil => exact ⟨[], rfl, by simp⟩
      | cons r rs ih =>
        obtain ⟨ms, h3, h4⟩ := ih fun x hx => h2 x (List.mem_cons_of_mem _ hx)
        have h5 := h2 r (List.mem_cons_self ..)
        simp only [hk] at h5
        obtain ⟨m, h6, h7, h8⟩ := h5
        refine ⟨m :: ms, by rw [h3, h8]; rfl, ?_⟩
        intro x hx
        rcases List.mem_cons.1 hx with rfl | hx
        · exact ⟨h6, h7⟩
        · exact h4 x hx
    obtain ⟨ms, rfl, h3⟩ := this
    refine ⟨ms, by simpa using h1, h3, fun hw => ?_⟩
    rw [hsz]
    exact .s _ hw
end Go.Pv
/- A region that draws its order, each order told by itself: for operations that write, ahead of which not all is known. -/
namespace Go.Pv
open Go.RowKit

/-- Both; kept as it is when a goal is computed. -/
structure Both (p q : Prop) : Prop where
  a : p
  b : q
/-- An operation that has not come up: its place, what it waits for, whether it moves slots alone. -/
structure ND where
  i : Nat
  deps : List Nat
  late : Bool
  o : Oper
def doOp (o : Oper) (g : Option (Nat × Bool)) : Oper := ⟨o.dst, o.op, o.type, o.pos, o.after, g⟩
def posOf : List Nat → Nat → Nat → Option Nat
  | [], _, _ => none
  | x :: r, k, j => match Nat.beq x j with
    | true => some k
    | false => posOf r (k + 1) j
def renK (π : List Nat) (o : Oper) (K : Oper → Prop) : Prop := match o with
  | ⟨dst, op, ty, pos, after, g⟩ => match g with
    | none => K (doOp ⟨dst, op, ty, pos, after, g⟩ none)
    | some (j, p) => match posOf π 0 j with
      | some k => K (doOp ⟨dst, op, ty, pos, after, g⟩ (some (k, p)))
      | none => False
def rdy (π : List Nat) (nd : ND) : Bool := nd.deps.all fun d => memN d π
/-- The first that moves slots alone and may come up, and the others. -/
def lateR (π : List Nat) : List ND → (ND → List ND → Prop) → Prop → Prop
  | [], _, Z => Z
  | nd :: r, K, Z => match nd.late && rdy π nd with
    | true => K nd r
    | false => lateR π r (fun x r' => K x (nd :: r')) Z
/-- Each that may come up, and the others. -/
def allR (π : List Nat) : List ND → (ND → List ND → Prop) → Prop
  | [], _ => True
  | nd :: r, K => match rdy π nd with
    | true => match allB π r with
      | true => Both (K nd r) (allR π r fun x r' => K x (nd :: r'))
      | false => K nd r
    | false => allR π r fun x r' => K x (nd :: r')
where allB (π : List Nat) : List ND → Bool
  | [] => false
  | nd :: r => match rdy π nd with
    | true => true
    | false => allB π r
def fND : List ND → (List ND → Prop) → Prop
  | [], K => K []
  | x :: r, K => fND r fun r => K (x :: r)
theorem fND_eq : ∀ (l : List ND) (K : List ND → Prop), fND l K = K l
  | [], _ => rfl
  | x :: r, K => by simp only [fND, fND_eq r]
def fPi : List Nat → (List Nat → Prop) → Prop
  | [], K => K []
  | x :: r, K => fPi r fun r => K (x :: r)
theorem fPi_eq : ∀ (l : List Nat) (K : List Nat → Prop), fPi l K = K l
  | [], _ => rfl
  | x :: r, K => by simp only [fPi, fPi_eq r]
def vany (P : Program) (cx : Ctx) (env : Env) (K : List RE → List AB → List (Nat × AB) → Prop) : Nat → List ND → List Nat → Nat → List RE → List AB → List (Nat × AB) → Prop
  | 0, rest, _, _, re, L, s => match rest with
    | [] => K re L s
    | _ => False
  | f + 1, rest, π, m, re, L, s => match rest with
    | [] => K re L s
    | x :: r => lateR π (x :: r) (fun nd rest' => fND rest' fun rest' => fPi (π ++ [nd.i]) fun π' => renK π nd.o fun o => vseq P cx env [o] m re [] L s fun re L s => fN (m + 1) fun m => vany P cx env K f rest' π' m re L s)
        (allR π (x :: r) fun nd rest' => fND rest' fun rest' => fPi (π ++ [nd.i]) fun π' => renK π nd.o fun o => vseq P cx env [o] m re [] L s fun re L s => fN (m + 1) fun m => vany P cx env K f rest' π' m re L s)

theorem lateR_some {π : List Nat} : ∀ {l : List ND} {K : ND → List ND → Prop} {Z : Prop}, lateR π l K Z → Z ∨ ∃ nd r', nd ∈ l ∧ nd.late = true ∧ rdy π nd = true ∧ l.Perm (nd :: r') ∧ K nd r'
  | [], _, _, h => .inl h
  | nd :: r, K, Z, h => by
    simp only [lateR] at h
    split at h
    · rename_i hb
      simp only [Bool.and_eq_true] at hb
      exact .inr ⟨nd, r, by simp, hb.1, hb.2, .refl _, h⟩
    · rcases lateR_some h with h | ⟨x, r', h1, h2, h3, h4, h5⟩
      · exact .inl h
      · exact .inr ⟨x, nd :: r', by simp [h1], h2, h3, (h4.cons nd).trans (.swap _ _ _), h5⟩
theorem allB_none {π : List Nat} : ∀ {l : List ND}, allR.allB π l = false → ∀ x ∈ l, rdy π x = false
  | [], _, x, h => by cases h
  | nd :: r, hb, x, hx => by
    simp only [allR.allB] at hb
    split at hb
    · cases hb
    · rename_i h0
      rcases List.mem_cons.1 hx with rfl | hx
      · exact h0
      · exact allB_none hb x hx
theorem allR_all {π : List Nat} : ∀ {l : List ND} {K : ND → List ND → Prop}, allR π l K → ∀ nd ∈ l, rdy π nd = true → ∃ r', l.Perm (nd :: r') ∧ K nd r'
  | [], _, _, nd, hn, _ => by cases hn
  | x :: r, K, h, nd, hn, hr => by
    simp only [allR] at h
    split at h
    · rename_i hx
      split at h
      · rcases List.mem_cons.1 hn with rfl | hn
        · exact ⟨r, .refl _, h.a⟩
        · obtain ⟨r', h1, h2⟩ := allR_all h.b nd hn hr
          exact ⟨x :: r', (h1.cons x).trans (.swap _ _ _), h2⟩
      · rename_i hb
        rcases List.mem_cons.1 hn with rfl | hn
        · exact ⟨r, .refl _, h⟩
        · rw [allB_none hb nd hn] at hr; cases hr
    · rename_i hx
      rcases List.mem_cons.1 hn with rfl | hn
      · rw [hx] at hr; cases hr
      · obtain ⟨r', h1, h2⟩ := allR_all h nd hn hr
        exact ⟨x :: r', (h1.cons x).trans (.swap _ _ _), h2⟩
theorem posOf_some : ∀ {l : List Nat} {k j m : Nat}, posOf l k j = some m → ∃ i, m = k + i ∧ l[i]? = some j
  | [], k, j, m, h => by simp [posOf] at h
  | x :: r, k, j, m, h => by
    simp only [posOf] at h
    split at h
    · rename_i hb
      cases h
      exact ⟨0, rfl, by rw [Nat.eq_of_beq_eq_true hb]; rfl⟩
    · obtain ⟨i, h1, h2⟩ := posOf_some h
      exact ⟨i + 1, by omega, by simpa using h2⟩

/-- An operation with another guard that asks the same. -/
theorem wpOp_ren {P : Program} {ops ops' : List Oper} {Q X : Exit → Act → World → Prop} {i m : Nat} {o : Oper} {g : Option (Nat × Bool)} {a : Act} {w : World} {K K' : Act → World → Prop} (hi : ops[i]? = some o) (hm : ops'[m]? = some (doOp o g))
    (hw : Region.wanted (doOp o g) (yielded ops'.toArray a.tmps) = Region.wanted o (yielded ops.toArray a.tmps)) (hX : ∀ e a w, X e a w → e = .normal) (hK : ∀ a w, K' a w → K a w) (h : wpOp P ops'.toArray X m K' a w) : wpOp P ops.toArray Q i K a w := by
  unfold wpOp at h ⊢
  simp only [List.getElem?_toArray, hi, hm] at h ⊢
  rw [hw] at h
  split
  · rename_i hb
    rw [if_pos hb] at h
    left
    have h := h.resolve_right (fun h => by
      obtain ⟨_, a, w, hq⟩ := h
      cases hX _ _ _ hq)
    have he : execOp a.eval (doOp o g) = execOp a.eval o := rfl
    have h := Oper.wp_mono hK h
    unfold Oper.wp at h ⊢
    rw [he] at h
    generalize (execOp a.eval o).run P w = r at *
    cases r with
    | ok n w' =>
      cases n <;> simp only [Oper.upon] at h ⊢ <;>
        first
          | exact h
          | exact Calls.mono h (fun e w'' he => by
              cases e with
              | returned v => exact he
              | panicked c => exact absurd (hX _ _ _ he) (by simp)
              | outgrown =>
                obtain ⟨a1, w1, hq⟩ := he
                exact absurd (hX _ _ _ hq) (by simp))
    | halt x w' => cases x <;> simp only [Oper.upon] at h ⊢ <;> first | exact h | exact absurd (hX _ _ _ h) (by simp)
  · rename_i hb
    rw [if_neg hb] at h
    exact hK _ _ h

/-- What the nodes say of the operations. -/
structure NDs (ops : List Oper) (rest : List ND) (π : List Nat) : Prop where
  all : ∀ i, i < ops.length → i ∉ π → ∃ nd ∈ rest, nd.i = i
  op : ∀ nd ∈ rest, ops[nd.i]? = some nd.o
  out : ∀ nd ∈ rest, nd.i ∉ π
  nd : (rest.map (·.i)).Nodup
  deps : ∀ nd ∈ rest, ∀ d ∈ nd.deps, ∃ e ∈ nd.o.after.toList, Region.binds .any e = true ∧ e.on = d
  deps2 : ∀ nd ∈ rest, ∀ e ∈ nd.o.after.toList, Region.binds .any e = true → e.on ∈ nd.deps
  late : ∀ nd ∈ rest, nd.late = true → noSel ops = true ∧ lateAt ops nd.i = true
theorem NDs.step {ops : List Oper} {rest rest' : List ND} {π : List Nat} {x : ND} (h : NDs ops rest π) (hp : rest.Perm (x :: rest')) : NDs ops rest' (π ++ [x.i]) := by
  have hm : ∀ nd ∈ rest', nd ∈ rest := fun nd hn => hp.mem_iff.2 (List.mem_cons_of_mem _ hn)
  have hnd : ((x :: rest').map (·.i)).Nodup := (hp.map (·.i)).nodup_iff.1 h.nd
  rw [List.map_cons, List.nodup_cons] at hnd
  refine ⟨fun i hi hn => ?_, fun nd hn => h.op nd (hm nd hn), fun nd hn hi => ?_, hnd.2, fun nd hn => h.deps nd (hm nd hn), fun nd hn => h.deps2 nd (hm nd hn), fun nd hn => h.late nd (hm nd hn)⟩
  · simp only [List.mem_append, List.mem_singleton, not_or] at hn
    obtain ⟨nd, h1, h2⟩ := h.all i hi hn.1
    rcases List.mem_cons.1 (hp.mem_iff.1 h1) with rfl | h1
    · exact absurd h2.symm hn.2
    · exact ⟨nd, h1, h2⟩
  · rcases List.mem_append.1 hi with hi | hi
    · exact h.out nd (hm nd hn) hi
    · rw [List.mem_singleton] at hi
      exact hnd.1 (List.mem_map.2 ⟨nd, hn, hi⟩)

theorem memN_iff {t : Nat} : ∀ {l : List Nat}, memN t l = true ↔ t ∈ l
  | [] => by simp [memN]
  | x :: r => by
    simp only [memN, Bool.or_eq_true, List.mem_cons, memN_iff (l := r)]
    constructor
    · rintro (h | h)
      · exact .inl (Nat.eq_of_beq_eq_true h).symm
      · exact .inr h
    · rintro (rfl | h)
      · exact .inl (Nat.beq_refl _)
      · exact .inr h
theorem getD_listed {listed : Array Bool} {j : Nat} (h : ¬ Lsd listed j) : listed.getD j false = false := by
  unfold Lsd at h; simpa using h

section
variable {P : Program} {cx : Ctx} {env : Env} {a0 : Act} {z : Z} {Q : Exit → Act → World → Prop} {ops : List Oper} {K : List RE → List AB → List (Nat × AB) → Prop}
/-- One operation, told behind what came up ahead of it. -/
theorem one_sound (hT : TabOK P cx.T) {π : List Nat} {its : List It} {L : List AB} {s : List (Nat × AB)} {a : Act} {w : World} {M : Mp} {F U : Nat → Prop} (hok : ∀ (i : Nat) (it : It), its[i]? = some it → okw cx.nt (reat its i) it.o = true)
    (hπ : ∀ (k i : Nat), π[k]? = some i → ∃ it o, its[k]? = some it ∧ ops[i]? = some o ∧ it.o.dst = o.dst) (hlen : its.length = π.length) (hI : SI cx env its a0 L s a w M F U) (hZ : Sin z M F U s w) {nd : ND} (hnd : ops[nd.i]? = some nd.o)
    {K1 : List RE → List AB → List (Nat × AB) → Prop} (h : renK π nd.o fun o => vseq P cx env [o] its.length (reat its its.length) [] L s K1) {N : Act → World → Prop}
    (hN : ∀ its' L' s' a' w' M' F' U', (∀ (i : Nat) (it : It), its'[i]? = some it → okw cx.nt (reat its' i) it.o = true) → (∀ (k i : Nat), (π ++ [nd.i])[k]? = some i → ∃ it o, its'[k]? = some it ∧ ops[i]? = some o ∧ it.o.dst = o.dst) → its'.length = its.length + 1 → K1 (reat its' its'.length) L' s' → SI cx env its' a0 L' s' a' w' M' F' U' → Sin z M' F' U' s' w' → N a' w') :
    wpOp P ops.toArray Q nd.i N a w := by
  have key : ∀ g, Region.wanted (doOp nd.o g) (yielded (its.map (·.o) ++ [doOp nd.o g]).toArray a.tmps) = Region.wanted nd.o (yielded ops.toArray a.tmps) → vseq P cx env [doOp nd.o g] its.length (reat its its.length) [] L s K1 → wpOp P ops.toArray Q nd.i N a w := by
    intro g hw hv
    have hlast : (its.map (·.o) ++ [doOp nd.o g])[its.length]? = some (doOp nd.o g) := by simp
    have := vseq_sound (P := P) (z := z) (a0 := a0) (ops := its.map (·.o) ++ [doOp nd.o g]) (Q := fun e a w => e = .normal ∧ N a w) hT [doOp nd.o g] its [] L s a w M F U hok (fun c hc => by cases hc) rfl hI hZ hv
      (fun its' L' s' a' w' M' F' U' hok' hops' hK hS' hZ' => by
        have hlen' : its'.length = its.length + 1 := by
          have := congrArg List.length hops'
          simp at this
          omega
        have hget : ∀ k : Nat, (its.map (·.o) ++ [doOp nd.o g])[k]? = (its'.map (·.o))[k]? := fun k => by rw [hops']
        refine ⟨rfl, hN its' L' s' a' w' M' F' U' hok' (fun k i hk => ?_) hlen' hK hS' hZ'⟩
        rcases Nat.lt_or_ge k π.length with hlt | hge
        · rw [List.getElem?_append_left hlt] at hk
          obtain ⟨it, o, h1, h2, h3⟩ := hπ k i hk
          have hg := hget k
          rw [List.getElem?_append_left (by simp; omega), List.getElem?_map, h1, List.getElem?_map] at hg
          simp only [Option.map_some] at hg
          cases h4 : its'[k]? with
          | none => rw [h4] at hg; cases hg
          | some it' =>
            rw [h4] at hg
            simp only [Option.map_some, Option.some.injEq] at hg
            exact ⟨it', o, rfl, h2, by rw [← hg]; exact h3⟩
        · rw [List.getElem?_append_right hge] at hk
          have hk0 : k = its.length := by
            have := (List.getElem?_eq_some_iff.1 hk).1
            simp at this
            omega
          subst hk0
          rw [hlen, Nat.sub_self] at hk
          simp at hk
          subst hk
          have hg := hget its.length
          rw [hlast, List.getElem?_map] at hg
          cases h4 : its'[its.length]? with
          | none => rw [h4] at hg; cases hg
          | some it' =>
            rw [h4] at hg
            simp only [Option.map_some, Option.some.injEq] at hg
            exact ⟨it', nd.o, rfl, hnd, by rw [← hg]; rfl⟩)
    simp only [List.length_singleton, List.range'_one] at this
    rw [wpOps_cons] at this
    exact wpOp_ren (X := fun e a w => e = .normal ∧ N a w) hnd hlast hw (fun _ _ _ h => h.1) (fun a w h => h.2) this
  have hg0 : nd.o = ⟨nd.o.dst, nd.o.op, nd.o.type, nd.o.pos, nd.o.after, nd.o.guard⟩ := rfl
  rw [hg0] at h
  simp only [renK] at h
  split at h
  · rename_i hg
    exact key none (by simp [Region.wanted, doOp, hg]) h
  · rename_i j p hg
    split at h <;> try exact h.elim
    rename_i k hk
    refine key (some (k, p)) ?_ h
    obtain ⟨k', rfl, hk'⟩ := posOf_some hk
    obtain ⟨it, o, h1, h2, h3⟩ := hπ k' j hk'
    have hkl := (List.getElem?_eq_some_iff.1 h1).1
    simp only [Region.wanted, doOp, hg, yielded, List.getElem?_toArray, Nat.zero_add, h2]
    rw [List.getElem?_append_left (by simpa using hkl), List.getElem?_map, h1]
    simp [h3]

theorem vany_sound (hT : TabOK P cx.T) (hord : ordOK ops = true) (hQ : ∀ e a w, Q e a w → e = .normal) : ∀ (f : Nat) (rest : List ND) (π : List Nat) (its : List It) (L : List AB) (s : List (Nat × AB)) (a : Act) (w : World) (M : Mp) (F U : Nat → Prop) (listed : Array Bool),
    (∀ (i : Nat) (it : It), its[i]? = some it → okw cx.nt (reat its i) it.o = true) → (∀ (k i : Nat), π[k]? = some i → ∃ it o, its[k]? = some it ∧ ops[i]? = some o ∧ it.o.dst = o.dst) → its.length = π.length → SI cx env its a0 L s a w M F U → Sin z M F U s w →
    NDs ops rest π → listed.size = ops.length → (∀ i, Lsd listed i ↔ i ∈ π) → Closed ops listed →
    vany P cx env K f rest π its.length (reat its its.length) L s →
    (∀ its' L' s' a' w' M' F' U', (∀ (i : Nat) (it : It), its'[i]? = some it → okw cx.nt (reat its' i) it.o = true) → K (reat its' its'.length) L' s' → SI cx env its' a0 L' s' a' w' M' F' U' → Sin z M' F' U' s' w' → Q .normal a' w') →
    wpAny P .any ops.toArray Q (unl ops.length listed) listed a w := by
  have fin : ∀ (π : List Nat) (its : List It) (L : List AB) (s : List (Nat × AB)) (a : Act) (w : World) (M : Mp) (F U : Nat → Prop) (listed : Array Bool),
      (∀ (i : Nat) (it : It), its[i]? = some it → okw cx.nt (reat its i) it.o = true) → SI cx env its a0 L s a w M F U → Sin z M F U s w → NDs ops [] π → listed.size = ops.length → (∀ i, Lsd listed i ↔ i ∈ π) → K (reat its its.length) L s →
      (∀ its' L' s' a' w' M' F' U', (∀ (i : Nat) (it : It), its'[i]? = some it → okw cx.nt (reat its' i) it.o = true) → K (reat its' its'.length) L' s' → SI cx env its' a0 L' s' a' w' M' F' U' → Sin z M' F' U' s' w' → Q .normal a' w') →
      wpAny P .any ops.toArray Q (unl ops.length listed) listed a w := by
    intro π its L s a w M F U listed hok hI hZ hN hs hl hK hq
    have hall : ∀ i, i < ops.length → Lsd listed i := fun i hi => by
      rw [hl i]
      refine Classical.byContradiction fun hn => ?_
      obtain ⟨nd, h1, _⟩ := hN.all i hi hn
      cases h1
    have hu : unl ops.length listed = 0 := by
      unfold unl
      rw [List.countP_eq_zero]
      intro i hi
      have := hall i (List.mem_range.1 hi)
      unfold Lsd at this
      simp [this]
    rw [hu]
    refine ⟨?_, hq its L s a w M F U hok hK hI hZ⟩
    cases hr : Region.ready .any ops.toArray listed with
    | nil => rfl
    | cons x xs =>
      have : x ∈ Region.ready .any ops.toArray listed := by rw [hr]; exact List.mem_cons_self
      obtain ⟨h1, h2, _⟩ := (ready_mem rfl hs).1 this
      exact absurd (hall x h1) h2
  intro f
  induction f with
  | zero =>
    intro rest π its L s a w M F U listed hok hπ hlen hI hZ hN hs hl hc h hq
    unfold vany at h
    split at h
    · exact fin π its L s a w M F U listed hok hI hZ hN hs hl h hq
    · exact h.elim
  | succ f ih =>
    intro rest π its L s a w M F U listed hok hπ hlen hI hZ hN hs hl hc h hq
    unfold vany at h
    split at h
    · exact fin π its L s a w M F U listed hok hI hZ hN hs hl h hq
    rename_i x r
    simp only [fND_eq, fPi_eq, fN_eq] at h
    -- one that comes up
    have step : ∀ (nd : ND) (r' : List ND), (x :: r).Perm (nd :: r') → nd.i ∈ Region.ready .any ops.toArray listed → (renK π nd.o fun o => vseq P cx env [o] its.length (reat its its.length) [] L s fun re L s => vany P cx env K f r' (π ++ [nd.i]) (its.length + 1) re L s) →
        ∀ (Q' : Exit → Act → World → Prop), wpOp P ops.toArray Q' nd.i (fun a' w' => wpAny P .any ops.toArray Q (unl ops.length (listed.setIfInBounds nd.i true)) (listed.setIfInBounds nd.i true) a' w') a w := by
      intro nd r' hp hi h Q'
      have hmem : nd ∈ x :: r := hp.mem_iff.2 (by simp)
      refine one_sound (a0 := a0) (z := z) hT hok hπ hlen hI hZ (hN.op nd hmem) h fun its' L' s' a' w' M' F' U' hok' hπ' hlen' hK' hI' hZ' => ?_
      have hil : nd.i < ops.length := (List.getElem?_eq_some_iff.1 (hN.op nd hmem)).1
      refine ih r' (π ++ [nd.i]) its' L' s' a' w' M' F' U' _ hok' hπ' (by simp; omega) hI' hZ' (hN.step hp) (by simp [hs]) (fun j => ?_) (closed_set hc rfl hs hi) (by rw [hlen'] at hK' ⊢; exact hK') hq
      rw [lsd_set (by omega), hl j]
      simp
    have hpos : ∀ i, i ∈ Region.ready .any ops.toArray listed → unl ops.length listed = unl ops.length (listed.setIfInBounds i true) + 1 := fun i hi => by
      obtain ⟨h1, h2, _⟩ := (ready_mem rfl hs).1 hi
      exact unl_set hs h1 h2
    -- what waits for nothing may come up
    have hready : ∀ nd ∈ x :: r, nd.i ∈ Region.ready .any ops.toArray listed → rdy π nd = true := by
      intro nd hmem hi
      obtain ⟨_, _, o, h3, h4⟩ := (ready_mem rfl hs).1 hi
      rw [hN.op nd hmem] at h3
      cases h3
      unfold rdy
      rw [List.all_eq_true]
      intro d hd
      obtain ⟨e, he, hb, rfl⟩ := hN.deps nd hmem d hd
      exact memN_of ((hl _).1 (h4 e he hb))
    rcases lateR_some h with h | ⟨nd, r', h1, h2, h3, h4, h5⟩
    · -- each
      have hx : ¬ Lsd listed x.i := fun hh => hN.out x (by simp) ((hl _).1 hh)
      have hxl : x.i < ops.length := (List.getElem?_eq_some_iff.1 (hN.op x (by simp))).1
      have hne := ready_some (ops := ops) rfl hs hord hxl hx
      have hu : ∃ u, unl ops.length listed = u + 1 := by
        cases hr : Region.ready .any ops.toArray listed with
        | nil => exact absurd hr hne
        | cons y ys => exact ⟨_, hpos y (by rw [hr]; simp)⟩
      obtain ⟨u, hu⟩ := hu
      rw [hu]
      refine ⟨fun h0 => absurd h0 hne, fun i hi => ?_⟩
      obtain ⟨q1, q2, o, q3, q4⟩ := (ready_mem rfl hs).1 hi
      obtain ⟨nd, hmem, rfl⟩ := hN.all i q1 (fun hh => q2 ((hl i).2 hh))
      obtain ⟨r', hp, hk⟩ := allR_all h nd hmem (hready nd hmem hi)
      have := step nd r' hp hi hk Q
      rwa [show unl ops.length (listed.setIfInBounds nd.i true) = u by have := hpos nd.i hi; omega] at this
    · -- what moves slots alone comes first
      obtain ⟨hns, hla⟩ := hN.late nd h1 h2
      obtain ⟨o, k1, k2, k3, k4⟩ := lateAt_spec hla
      have hno := hN.op nd h1
      rw [k1] at hno
      cases hno
      have hil : nd.i < ops.length := (List.getElem?_eq_some_iff.1 k1).1
      have hni : ¬ Lsd listed nd.i := fun hh => hN.out nd h1 ((hl _).1 hh)
      have hall : ∀ e ∈ nd.o.after.toList, Region.binds .any e = true → Lsd listed e.on := fun e he hb => (hl _).2 (by
        have := List.all_eq_true.1 h3 _ (hN.deps2 nd h1 e he hb)
        exact memN_iff.1 this)
      have hi : nd.i ∈ Region.ready .any ops.toArray listed := (ready_mem rfl hs).2 ⟨hil, hni, nd.o, k1, hall⟩
      have hstep := step nd r' h4 hi h5 (fun _ _ _ => False)
      unfold wpOp at hstep
      simp only [List.getElem?_toArray, k1] at hstep
      rw [if_pos (by simp [Region.wanted, k3])] at hstep
      have hwp := hstep.resolve_right (fun h => by
        obtain ⟨_, a, w, hq⟩ := h
        exact hq.elim)
      obtain ⟨v, hy, hK⟩ := slot_yield (ops := ops.toArray) k2 k3 hwp
      rw [hpos nd.i hi]
      refine wpAny_first (by simpa using k1) (fun j oj cs b hj he => ?_) (fun c a w hq => absurd (hQ _ _ _ hq) (by simp)) _ listed a w (fun j oj hj hne hld hw => k4 j oj (by simpa using hj) hne (fun hbit => by
        have hlj := waits hc nd.i j _ k1 hall hbit
        have hlt := (Array.getElem?_eq_some_iff.1 hj).1
        unfold Lsd at hlj
        rw [Array.getD_eq_getD_getElem?, Array.getElem?_eq_getElem (by simp at hlt; omega)] at hlj hld
        simp only [Option.getD_some] at hlj hld
        rw [hlj] at hld
        cases hld) hw) hi hy hK
      have := List.all_eq_true.1 hns oj (by have := List.mem_of_getElem? (show ops[j]? = some oj by simpa using hj); exact this)
      rw [he] at this
      cases this

/-- The nodes of a region. -/
def nodesOf (ops : List Oper) (lates : List Nat) : List ND := ops.zipIdx.map fun x => ⟨x.2, (x.1.after.toList.filter fun e => Region.binds .any e).map (·.on), memN x.2 lates, x.1⟩
theorem NDs.start {lates : List Nat} (h : (lates.all fun i => noSel ops && lateAt ops i) = true) : NDs ops (nodesOf ops lates) [] := by
  have get : ∀ nd ∈ nodesOf ops lates, ∃ i o, ops[i]? = some o ∧ nd = ⟨i, (o.after.toList.filter fun e => Region.binds .any e).map (·.on), memN i lates, o⟩ := by
    intro nd hn
    obtain ⟨⟨o, i⟩, h1, h2⟩ := List.mem_map.1 hn
    rw [List.mem_iff_getElem?] at h1
    obtain ⟨k, h1⟩ := h1
    simp only [List.getElem?_zipIdx, Option.map_eq_some_iff, Prod.mk.injEq, Nat.zero_add] at h1
    obtain ⟨o', h3, rfl, rfl⟩ := h1
    exact ⟨k, o', h3, h2.symm⟩
  refine ⟨fun i hi _ => ⟨_, List.mem_map.2 ⟨(ops[i], i), zipIdx_mem (List.getElem?_eq_getElem hi), rfl⟩, rfl⟩, fun nd hn => ?_, fun nd hn hi => (by cases hi), ?_, fun nd hn d hd => ?_, fun nd hn e he hb => ?_, fun nd hn hl => ?_⟩
  · obtain ⟨i, o, h1, rfl⟩ := get nd hn; exact h1
  · have : (nodesOf ops lates).map (·.i) = List.range ops.length := by
      unfold nodesOf
      rw [List.map_map]
      apply List.ext_getElem?
      intro k
      rcases Nat.lt_or_ge k ops.length with h | h
      · simp [h]
      · simp [h]
    rw [this]
    exact List.nodup_range
  · obtain ⟨i, o, h1, rfl⟩ := get nd hn
    obtain ⟨e, he, rfl⟩ := List.mem_map.1 hd
    rw [List.mem_filter] at he
    exact ⟨e, he.1, he.2, rfl⟩
  · obtain ⟨i, o, h1, rfl⟩ := get nd hn
    exact List.mem_map.2 ⟨e, List.mem_filter.2 ⟨he, hb⟩, rfl⟩
  · obtain ⟨i, o, h1, rfl⟩ := get nd hn
    have := List.all_eq_true.1 h i (memN_iff.1 hl)
    simpa only [Bool.and_eq_true] using this
end
/-- A region that draws, each order by itself; J tells what all of them come to. -/
theorem V.draw {P : Program} {cx : Ctx} {n : Nat} {env : Env} {s : List (Nat × AB)} (hT : TabOK P cx.T) (hm : P.follows .mixedOrders = true) {id : Nat} {ops : Array Oper} {K : Exit → Env → List (Nat × AB) → Prop} (lates : List Nat) (nodes : List ND) (hn : nodes = nodesOf ops.toList lates)
    (hk : (ordOK ops.toList && lates.all fun i => noSel ops.toList && lateAt ops.toList i) = true) (J : Env → List (Nat × AB) → Prop)
    (h : vany P cx env (fun re L s => envK cx.keep re env fun env => tidyK env cx.keep fun env => promK cx.keep n env L s fun env s => ∃ env' s', GV cx n env [] s env' s' ∧ J env' s') nodes.length nodes [] 0 [] [] s)
    (hJ : ∀ env s, J env s → K .normal env s) : V P cx n (.region id ops true) env s K := by
  subst hn
  simp only [Bool.and_eq_true] at hk
  refine .mk fun z a w M F U h0 hC hZ => ?_
  refine wp_mono (Q := fun e a w => e = .normal ∧ QV cx z K .normal a w) (wp_region_any hm ?_) (fun e a w hq => by obtain ⟨rfl, hq⟩ := hq; exact hq)
  have hnone : ∀ i, ¬ Lsd (Array.replicate ops.toList.length false) i := by
    intro i h
    unfold Lsd at h
    rw [Array.getD_eq_getD_getElem?] at h
    rw [Array.getElem?_replicate] at h
    split at h <;> simp at h
  have hX : ∀ U, Ext U w { w with drawn := w.drawn + 1 } := fun U => ⟨rfl, rfl, rfl, Nat.le_refl _, fun _ _ => rfl, fun _ _ => rfl⟩
  have hst : St M F U [] s { w with drawn := w.drawn + 1 } := ⟨fun r ab b hr hm => (hC.st.rb r ab b hr hm).mono (.refl _) (fun _ h => h) (fun b hb => hC.st.FU b hb) (hX U) (fun _ => rfl), hC.st.inj, hC.st.nU, hC.st.nd, hC.st.FU, hC.st.Ult, hC.st.dom, hC.st.tot, hC.st.gdom⟩
  have hSI : SI cx env [] a [] s a { w with drawn := w.drawn + 1 } M F U := ⟨hst, hC.gl.mono (fun _ h => h) (fun b hb => hC.st.FU b hb) (hX U), fun i it hit => (by simp at hit), fun t _ => (hC.env t).mono (.refl _) (fun _ h => h) hC.st.FU (hX U), hC.size, rfl⟩
  have hZ' : Sin z M F U s { w with drawn := w.drawn + 1 } := ⟨hZ.g, hZ.FF, hZ.UU, hZ.Fn, hZ.ext.trans (hX _) (fun _ h => h), hZ.ll, hZ.lg, hZ.ids⟩
  have hu : unl ops.toList.length (Array.replicate ops.toList.length false) = ops.size := by
    unfold unl
    have : ∀ m, (List.range m).countP (fun i => !((Array.replicate ops.toList.length false).getD i false)) = m := by
      intro m
      induction m with
      | zero => rfl
      | succ m ih =>
        rw [List.range_succ, List.countP_append, ih]
        have := hnone m
        unfold Lsd at this
        simp only [Bool.not_eq_true] at this
        simp only [List.countP_cons, List.countP_nil, this, Bool.not_false, if_true]
    rw [this]
    simp
  have := vany_sound (P := P) (cx := cx) (env := env) (a0 := a) (z := z) (Q := fun e a w => e = .normal ∧ QV cx z K .normal a w) (ops := ops.toList) hT hk.1 (fun _ _ _ h => h.1) _ _ [] [] [] s a { w with drawn := w.drawn + 1 } M F U (Array.replicate ops.toList.length false)
    (fun i it hit => by simp at hit) (fun k i hi => by simp at hi) rfl hSI hZ' (NDs.start hk.2) (by simp) (fun i => ⟨fun h => absurd h (hnone i), fun h => by cases h⟩) (fun j o _ h => absurd h (hnone j)) h ?_
  · rw [hu] at this
    simpa using this
  intro its' L' s' a'' w'' M'' F'' U'' hok hK hS hZ2
  rw [envK_eq] at hK
  simp only [tidyK_eq] at hK
  obtain ⟨env2, s2, hg, env3, s3, hg2, hk3⟩ := promK_get rfl hK
  have hCS : CS cx M'' F'' U'' L' s' w'' (envOf cx.keep (reat its' its'.length) env) a'' := ⟨hS.st, hS.gl, fun t => envOf_rv _ (fun e he hg => by
    obtain ⟨j, itj, hji, hitj, hdj, rfl, _⟩ := rlook_reat he
    exact (hS.slot j itj hitj t hdj).1 (by rw [show gsAt its' j itj = [] from hg]; exact trivial)) (fun hn => hS.env t fun i it hit => rlook_none hn i it (List.getElem?_eq_some_iff.1 hit).1 hit), hS.size, hS.defers.trans hC.defers⟩
  obtain ⟨M2, F2, U2, h4, h5⟩ := hg z a'' w'' M'' F'' U'' h0 ⟨hCS.st, hCS.gl, tidyE_rv hCS.env _, hCS.size, hCS.defers⟩ hZ2
  obtain ⟨M3, F3, U3, h6, h7⟩ := hg2 z a'' w'' M2 F2 U2 h0 h4 h5
  exact ⟨rfl, env3, s3, M3, F3, U3, hJ _ _ hk3, h6, h7⟩
/-- The nodes, of a table that a program printed. -/
def mkND : List (Nat × List Nat × Bool) → List Oper → List ND
  | (i, d, l) :: r, o :: os => ⟨i, d, l, o⟩ :: mkND r os
  | _, _ => []
def spLate : List (Nat × List Nat × Bool) → List Nat
  | [] => []
  | (i, _, true) :: r => i :: spLate r
  | (_, _, false) :: r => spLate r
def regionsOf : Code → List (Nat × List Oper)
  | .region id ops _ => [(id, ops.toList)]
  | .seq a b => regionsOf a ++ regionsOf b
  | .cond _ a b => regionsOf a ++ regionsOf b
  | .block _ c => regionsOf c
  | .loop c => regionsOf c
  | .rangeFunc _ _ a b => regionsOf a ++ regionsOf b
  | .scope c => regionsOf c
  | _ => []
def findReg : List (Nat × List Oper) → Nat → List Oper
  | [], _ => []
  | (i, l) :: r, x => match Nat.beq i x with
    | true => l
    | false => findReg r x
def specOf (ops : List Oper) : List (Nat × List Nat × Bool) := ops.zipIdx.map fun x => (x.2, (x.1.after.toList.filter fun e => Region.binds .any e).map (·.on), noSel ops && lateAt ops x.2)
theorem V.drawS {P : Program} {cx : Ctx} {n : Nat} {env : Env} {s : List (Nat × AB)} (hT : TabOK P cx.T) (hm : P.follows .mixedOrders = true) {id : Nat} {ops : Array Oper} {K : Exit → Env → List (Nat × AB) → Prop} (sp : List (Nat × List Nat × Bool)) (hn : mkND sp ops.toList = nodesOf ops.toList (spLate sp))
    (hk : (ordOK ops.toList && (spLate sp).all fun i => noSel ops.toList && lateAt ops.toList i) = true) (J : Env → List (Nat × AB) → Prop)
    (h : fND (mkND sp ops.toList) fun nodes => vany P cx env (fun re L s => envK cx.keep re env fun env => tidyK env cx.keep fun env => promK cx.keep n env L s fun env s => ∃ env' s', GV cx n env [] s env' s' ∧ J env' s') nodes.length nodes [] 0 [] [] s)
    (hJ : ∀ env s, J env s → K .normal env s) : V P cx n (.region id ops true) env s K := by
  rw [fND_eq] at h
  exact V.draw hT hm (spLate sp) _ hn hk J h hJ
end Go.Pv
/- The walk: code told by first-order states, so that goals stay small; and that it tells the truth. -/
namespace Go.Pv
open Go.RowKit

/-! ### Code by its path -/
def ch0 : Code → Code
  | .seq a _ => a
  | .cond _ a _ => a
  | .block _ c => c
  | .loop c => c
  | _ => .skip
def ch1 : Code → Code
  | .seq _ b => b
  | .cond _ _ b => b
  | _ => .skip
def getC (R : Code) : List Nat → Code
  | [] => R
  | k :: p => match k with
    | 0 => ch0 (getC R p)
    | _ + 1 => ch1 (getC R p)
theorem okCode_ch0 {kt : List (Nat × Nat)} {c : Code} (h : okCode kt c = true) : okCode kt (ch0 c) = true := by
  cases c <;> simp only [ch0, okCode, Bool.and_eq_true] at h ⊢ <;> first | exact h.1 | exact h | rfl
theorem okCode_ch1 {kt : List (Nat × Nat)} {c : Code} (h : okCode kt c = true) : okCode kt (ch1 c) = true := by
  cases c <;> simp only [ch1, okCode, Bool.and_eq_true] at h ⊢ <;> first | exact h.2 | rfl
theorem okCode_get {kt : List (Nat × Nat)} {R : Code} (h : okCode kt R = true) : ∀ p, okCode kt (getC R p) = true
  | [] => h
  | 0 :: p => okCode_ch0 (okCode_get h p)
  | (_ + 1) :: p => okCode_ch1 (okCode_get h p)
def opsC : Code → List Oper
  | .region _ ops _ => ops.toList
  | _ => []
def nthO : List Oper → Nat → Option Oper
  | [], _ => none
  | o :: r, i => match i with
    | 0 => some o
    | j + 1 => nthO r j
theorem nthO_eq : ∀ (l : List Oper) (i : Nat), nthO l i = l[i]?
  | [], _ => by simp [nthO]
  | _ :: _, 0 => rfl
  | _ :: r, j + 1 => by simp [nthO, nthO_eq r j]
inductive Fr where
  | sq (p : List Nat)
  | bl (id : Nat)
inductive Md where
  | code (p : List Nat)
  | reg (p : List Nat) (k i : Nat) (re : List RE) (dead : List (List (Nat × Bool))) (L : List AB)
  | ex (e : Exit)
structure Sta where
  md : Md
  st : List Fr
  env : Env
  s : List (Nat × AB)
abbrev KK := Exit → Env → List (Nat × AB) → Prop
def Kst (P : Program) (cx : Ctx) (n : Nat) (R : Code) (K : KK) : List Fr → KK
  | [] => K
  | .sq p :: st => KT (fun env s => V P cx n (getC R p) env s (Kst P cx n R K st)) (Kst P cx n R K st)
  | .bl id :: st => KB id (Kst P cx n R K st)

/-- The slots that are told on; those of which nothing is known left out. -/
def uAV (x : AV) (Z : Prop) (K : AV → Prop) : Prop := match x with
  | .d x => K (.d x)
  | .agg cs => K (.agg cs)
  | .tup cs => K (.tup cs)
  | .ref r off => K (.ref r off)
  | .slc r sz off len cap => K (.slc r sz off len cap)
  | .el r sz i j => K (.el r sz i j)
  | .mp r => K (.mp r)
  | .fn f cs => K (.fn f cs)
  | .ifc t x => K (.ifc t x)
  | .undef => Z
theorem uAV_cases {x : AV} {Z : Prop} {K : AV → Prop} (h : uAV x Z K) : (x = .undef ∧ Z) ∨ K x := by
  cases x <;> simp only [uAV] at h <;> first | exact .inr h | exact .inl ⟨rfl, h⟩
def tidyU (env : Env) : List Nat → (Env → Prop) → Prop
  | [], K => K []
  | t :: r, K => uAV (look env t) (tidyU env r K) fun v => tidyU env r fun en => K ((t, v) :: en)
theorem tidyU_get {M : Mp} {F : Nat → Prop} {w : World} {env : Env} {v : Nat → Value} (h : ∀ t, RV M F w (look env t) (v t)) : ∀ {ts : List Nat} {K : Env → Prop}, tidyU env ts K → ∃ en, (∀ t, RV M F w (look en t) (v t)) ∧ K en
  | [], K, hk => ⟨[], fun t => .undef _, hk⟩
  | t :: r, K, hk => by
    simp only [tidyU] at hk
    rcases uAV_cases hk with ⟨_, hk⟩ | hk
    · exact tidyU_get h hk
    · obtain ⟨en, h1, h2⟩ := tidyU_get h hk
      refine ⟨_, fun t' => ?_, h2⟩
      simp only [look]
      split
      · rename_i hb
        have := beq_t hb
        subst this
        exact h t
      · exact h1 t'

/-- Where the walk waits: the code at a path, told by hand. -/
structure StopG (P : Program) (cx : Ctx) (n : Nat) (R : Code) (K : KK) (p : List Nat) (st : List Fr) (env : Env) (s : List (Nat × AB)) : Prop where
  h : V P cx n (getC R p) env s (Kst P cx n R K st)

/-- A call's objects. -/
def ObjK (P : Program) (cx : Ctx) (s : List (Nat × AB)) (g : Nat) (args : List AV) (K : AV → List (Nat × AB) → Prop) : Prop :=
  occsK 100 args [] fun ρ0 => reachK 50 s 0 ρ0 fun ρ => match nodupB ρ with
    | true => match rnL (toF ρ) args with
      | some args1 => fAVs 100 args1 fun args1 => match selS ρ s ρ 0 with
        | some s0 => fSt s0 fun s0 => ∃ args' R, (WkL args1 args' ∧ Contract P cx.G g args' s0 R) ∧ ∀ res s1, R res s1 → tauK s ρ s1 fun τ => match nodupB (ρ ++ τ) && allNew s τ && covers s1 ρ.length with
          | true => match putS (ρ ++ τ) s1 s with
            | some s' => match res.rn (frF (ρ ++ τ)) with
              | some res' => K res' s'
              | none => False
            | none => False
          | false => False
        | none => False
      | none => False
    | false => False
/-- A call: by values alone, by data, by objects. -/
inductive CallG (P : Program) (cx : Ctx) (o : Oper) (rh : Operand → AV) (re : List RE) (gs : List (Nat × Bool)) (L : List AB) (s : List (Nat × AB)) (g : Nat) (args : List AV) (K : AV → List AB → List (Nat × AB) → Prop) (Z : Prop) : Prop
  | scal (args' : List AV) (v : AV) (h : sg re gs (Lend s args args' ∧ (nrL args' && v.scal) = true ∧ Contract P cx.G g args' [] (fun r t => r = v ∧ t = []))) (k : K v L s)
  | data (args' : List AV) (v : AV) (h : sg re gs (WkL args args' ∧ (nrL args' && nrL [v]) = true ∧ Contract P cx.G g args' [] (fun r t => r = v ∧ t = []))) (k : K v L s)
  | obj (hg : gs = []) (h : ObjK P cx s g args fun v s' => K v L s')
  | objg (h : HG re gs → ObjK P cx s g args fun v s' => K v L s') (hn : ¬ HG re gs → Z)
  | raw (hg : gs = []) (h : EJ P cx.G o rh L s K)
inductive CallH (P : Program) (cx : Ctx) (re : List RE) (gs : List (Nat × Bool)) (s : List (Nat × AB)) (g : Nat) (args : List AV) (K : AV → Prop) : Prop
  | scal (args' : List AV) (v : AV) (h : sg re gs (Lend s args args' ∧ (nrL args' && v.scal) = true ∧ Contract P cx.G g args' [] (fun r t => r = v ∧ t = []))) (k : K v)
  | data (args' : List AV) (v : AV) (h : sg re gs (WkL args args' ∧ (nrL args' && nrL [v]) = true ∧ Contract P cx.G g args' [] (fun r t => r = v ∧ t = []))) (k : K v)

/-- Whom an operation calls, with what. -/
def callOf (rh : Operand → AV) (op : Op) (K : Nat → List AV → Prop) (Z : Prop) (B : Prop) : Prop := match op with
  | .call c => match c.callee with
    | .value f => match rh f with
      | .fn g caps => fAVs 100 (c.args.toList.map rh ++ caps) fun args => K g args
      | _ => B
    | _ => Z
  | _ => Z

/-- One operation of a region's head. -/
def hd1 (P : Program) (cx : Ctx) (env : Env) (s : List (Nat × AB)) (re : List RE) (L : List AB) (o : Oper) (K : List (Nat × Bool) → AV → List AB → Prop) : Prop := match okop cx.nt re o with
  | true => fG (gsOf re o.guard) fun gs => callOf (rho cx.G env re) o.op (fun g args => CallH P cx re gs s g args fun v => fAV 100 v fun v => K gs v L)
      (vop P cx (sg re gs) (rho cx.G env re) L s o.op fun v new => fAV 100 v fun v => fApp L new fun L => K gs v L) False
  | false => False
/-- One operation of a region's tail. -/
def tl1 (P : Program) (cx : Ctx) (env : Env) (re : List RE) (dead : List (List (Nat × Bool))) (L : List AB) (s : List (Nat × AB)) (o : Oper) (K : List (Nat × Bool) → AV → List (List (Nat × Bool)) → List AB → List (Nat × AB) → Prop) : Prop := match skipB re dead o && okw cx.nt re o with
  | true => fG (gsOf re o.guard) fun gs => K gs .undef dead L s
  | false => match okop cx.nt re o with
    | true => fG (gsOf re o.guard) fun gs => callOf (rho cx.G env re) o.op
        (fun g args => CallG P cx o (rho cx.G env re) re gs L s g args (fun v L' s' => fAV 100 v fun v => fABs L' fun L' => fSt s' fun s' => K gs v dead L' s') (K gs .undef (gs :: dead) L s))
        (match isEff o.op with
          | true => match gs with
            | [] => veff P cx (rho cx.G env re) L s o.op fun v L' s' => fAV 100 v fun v => fABs L' fun L' => fSt s' fun s' => K [] v dead L' s'
            | g :: gr => (HG re (g :: gr) → veff P cx (rho cx.G env re) L s o.op fun v L' s' => fAV 100 v fun v => fABs L' fun L' => fSt s' fun s' => K (g :: gr) v dead L' s') ∧ (¬ HG re (g :: gr) → K (g :: gr) .undef ((g :: gr) :: dead) L s)
          | false => vop P cx (sg re gs) (rho cx.G env re) L s o.op fun v new => fAV 100 v fun v => fApp L new fun L => K gs v dead L s)
        False
    | false => False

section
variable (P : Program) (cx : Ctx) (n : Nat) (kt : List (Nat × Nat)) (ct : List Nat) (R : Code) (K : KK)
/-- One step of the walk. -/
def stp (rec : Sta → Prop) : Sta → Prop
  | ⟨.code p, st, env, s⟩ => match getC R p with
    | .skip => rec ⟨.ex .normal, st, env, s⟩
    | .label _ => rec ⟨.ex .normal, st, env, s⟩
    | .exit id => rec ⟨.ex (.exit id), st, env, s⟩
    | .ret => rec ⟨.ex .ret, st, env, s⟩
    | .seq _ _ => rec ⟨.code (0 :: p), .sq (1 :: p) :: st, env, s⟩
    | .cond c _ _ => match rho cx.G env [] c with
      | .d (.bool b) => bcase b (rec ⟨.code (0 :: p), st, env, s⟩) (rec ⟨.code (1 :: p), st, env, s⟩)
      | _ => False
    | .block id _ => rec ⟨.code (0 :: p), .bl id :: st, env, s⟩
    | .region id _ _ => match Nat.beq (ktab kt id) 1000 || memB id ct with
      | true => StopG P cx n R K p st env s
      | false => fLit (ktab kt id) nums fun k => rec ⟨.reg p k 0 [] [] [], st, env, s⟩
    | _ => StopG P cx n R K p st env s
  | ⟨.reg p k i re dead L, st, env, s⟩ => match nthO (opsC (getC R p)) i with
    | none => envK cx.keep re env fun env => tidyU env cx.keep fun env => promK cx.keep n env L s fun env s => rec ⟨.ex .normal, st, env, s⟩
    | some o => fO o.dst fun d => fLit (i + 1) nums fun i1 => match Nat.blt i k with
      | true => hd1 P cx env s re L o fun gs v L => rec ⟨.reg p k i1 (⟨i, d, gs, v⟩ :: re) dead L, st, env, s⟩
      | false => tl1 P cx env re dead L s o fun gs v dead L s => rec ⟨.reg p k i1 (⟨i, d, gs, v⟩ :: re) dead L, st, env, s⟩
  | ⟨.ex e, st, env, s⟩ => match st with
    | [] => K e env s
    | .sq p :: st => match e with
      | .normal => rec ⟨.code p, st, env, s⟩
      | e => rec ⟨.ex e, st, env, s⟩
    | .bl id :: st => match e with
      | .exit id' => match Nat.beq id' id with
        | true => rec ⟨.ex .normal, st, env, s⟩
        | false => rec ⟨.ex (.exit id'), st, env, s⟩
      | e => rec ⟨.ex e, st, env, s⟩
def run (m : Nat) : Sta → Prop := Nat.rec (fun _ => False) (fun _ ih σ => stp P cx n kt ct R K ih σ) m
end
theorem run_succ {P : Program} {cx : Ctx} {n : Nat} {kt : List (Nat × Nat)} {ct : List Nat} {R : Code} {K : KK} (m : Nat) (σ : Sta) : run P cx n kt ct R K (m + 1) σ = stp P cx n kt ct R K (run P cx n kt ct R K m) σ := rfl
theorem run_zero {P : Program} {cx : Ctx} {n : Nat} {kt : List (Nat × Nat)} {ct : List Nat} {R : Code} {K : KK} (σ : Sta) : run P cx n kt ct R K 0 σ = False := rfl
end Go.Pv
