/- The telling of a region: the operations ahead of its tail, then the tail. -/
import Derived.Test.YtkenimmellonjaaPvS
namespace Go.Pv
open Go.RowKit

def vpre (P : Program) (cx : Ctx) (env : Env) (s : List (Nat × AB)) : List Oper → Nat → List RE → List AB → (List RE → List AB → Prop) → Prop
  | [], _, re, L, K => K re L
  | o :: rest, i, re, L, K => match okop cx.nt re o with
    | true => fG (gsOf re o.guard) fun gs => vop P cx (sg re gs) (rho cx.G env re) L s o.op fun v new => fAV 100 v fun v => fApp L new fun L => fO o.dst fun d => fN (i + 1) fun i1 => vpre P cx env s rest i1 (⟨i, d, gs, v⟩ :: re) L K
    | false => False

theorem reat_app {its its2 : List It} : ∀ {i : Nat}, i ≤ its.length → reat (its ++ its2) i = reat its i
  | 0, _ => rfl
  | i + 1, h => by
    unfold reat
    rw [List.getElem?_append_left (by omega), reat_app (by omega)]
theorem Lat_app {its its2 : List It} {L0 : List AB} {i : Nat} (h : i ≤ its.length) : Lat (its ++ its2) L0 i = Lat its L0 i := by
  unfold Lat
  rw [List.take_append_of_le_length h]
theorem sg_im {re : List RE} {gs : List (Nat × Bool)} (p : Prop) (h : sg re gs p) (hg : HG re gs) : p := by
  cases gs with
  | nil => exact h
  | cons x r => exact h hg

structure Told (P : Program) (cx : Ctx) (env : Env) (s : List (Nat × AB)) (its : List It) (L0 : List AB) : Prop where
  ok : ∀ (i : Nat) (it : It), its[i]? = some it → okop cx.nt (reat its i) it.o = true
  pj : ∀ (i : Nat) (it : It), its[i]? = some it → HG (reat its i) (gsAt its i it) → PJ2 P cx.G it.o (rho cx.G env (reat its i)) (Lat its L0 i) s it.v it.new

theorem vpre_sound {P : Program} {cx : Ctx} (hT : TabOK P cx.T) {env : Env} {s : List (Nat × AB)} {L0 : List AB} {K : List RE → List AB → Prop} : ∀ (rest : List Oper) (its : List It), Told P cx env s its L0 →
    vpre P cx env s rest its.length (reat its its.length) (Lat its L0 its.length) K →
    ∃ its2, its2.map (·.o) = rest ∧ Told P cx env s (its ++ its2) L0 ∧ K (reat (its ++ its2) (its ++ its2).length) (Lat (its ++ its2) L0 (its ++ its2).length)
  | [], its, hI, h => ⟨[], rfl, by simpa using hI, by simpa [vpre] using h⟩
  | o :: rest, its, hI, h => by
    simp only [vpre, fG_eq, fAV_eq, fApp_eq, fO_eq, fN_eq] at h
    split at h <;> try exact h.elim
    rename_i hok
    obtain ⟨v, new, hpj, h⟩ := vop_sound hT (H := HG (reat its its.length) (gsOf (reat its its.length) o.guard)) (fun p hp hg => sg_im p hp hg) h
    have hlen : (its ++ [(⟨o, v, new⟩ : It)]).length = its.length + 1 := by simp
    have hlast : (its ++ [(⟨o, v, new⟩ : It)])[its.length]? = some (⟨o, v, new⟩ : It) := by simp
    have hre : reat (its ++ [(⟨o, v, new⟩ : It)]) (its.length + 1) = ⟨its.length, o.dst, gsOf (reat its its.length) o.guard, v⟩ :: reat its its.length := by
      rw [reat, hlast]
      simp only [reat_app (its2 := [(⟨o, v, new⟩ : It)]) (Nat.le_refl its.length)]
    have hL : Lat (its ++ [(⟨o, v, new⟩ : It)]) L0 (its.length + 1) = Lat its L0 its.length ++ new := by
      rw [Lat_succ hlast, Lat_app (Nat.le_refl _)]
    have hI2 : Told P cx env s (its ++ [(⟨o, v, new⟩ : It)]) L0 := by
      refine ⟨fun i it hit => ?_, fun i it hit => ?_⟩
      · rcases Nat.lt_or_ge i its.length with hi | hi
        · rw [List.getElem?_append_left hi] at hit
          rw [reat_app (by omega)]
          exact hI.ok i it hit
        · have : i = its.length := by
            have := (List.getElem?_eq_some_iff.1 hit).1
            simp at this
            omega
          subst this
          rw [hlast] at hit
          cases hit
          rw [reat_app (Nat.le_refl _)]
          exact hok
      · rcases Nat.lt_or_ge i its.length with hi | hi
        · rw [List.getElem?_append_left hi] at hit
          unfold gsAt
          rw [reat_app (by omega), Lat_app (by omega)]
          exact hI.pj i it hit
        · have : i = its.length := by
            have := (List.getElem?_eq_some_iff.1 hit).1
            simp at this
            omega
          subst this
          rw [hlast] at hit
          cases hit
          unfold gsAt
          rw [reat_app (Nat.le_refl _), Lat_app (Nat.le_refl _)]
          exact hpj
    obtain ⟨its2, h1, h2, h3⟩ := vpre_sound hT rest (its ++ [(⟨o, v, new⟩ : It)]) hI2 (by rw [hlen, hre, hL]; exact h)
    refine ⟨⟨o, v, new⟩ :: its2, by simp [h1], by simpa using h2, by simpa using h3⟩

/-- The tail's operations: one that writes, told as it stands. -/
def fFresh : Nat → Nat → List (Nat × AB) → (Nat → Prop) → Prop
  | 0, _, _, _ => False
  | f + 1, n, s, K => match sfind s n with
    | none => K n
    | some _ => fN (n + 1) fun n => fFresh f n s K
theorem fFresh_some : ∀ {f n : Nat} {s : List (Nat × AB)} {K : Nat → Prop}, fFresh f n s K → ∃ n, sfind s n = none ∧ K n
  | 0, _, _, _, h => h.elim
  | f + 1, n, s, K, h => by
    simp only [fFresh, fN_eq] at h
    split at h
    · rename_i hn; exact ⟨n, hn, h⟩
    · exact fFresh_some h
def fNew (s : List (Nat × AB)) (K : Nat → Prop) : Prop := fLen s lits 0 fun n => fFresh 1000 n s K
theorem fNew_some {s : List (Nat × AB)} {K : Nat → Prop} (h : fNew s K) : ∃ n, sfind s n = none ∧ K n := by
  unfold fNew at h
  rw [fLen_eq] at h
  exact fFresh_some h
/-! ### Whom a call is told of -/
def addK (i : Nat) (acc : List Nat) (K : List Nat → Prop) : Prop := match memB i acc with
  | true => K acc
  | false => fN i fun i => appF acc [i] K
def occR (r : Rf) (acc : List Nat) (K : List Nat → Prop) : Prop := match r with
  | .g i => addK i acc K
  | .l _ => K acc
mutual
def occK : Nat → AV → List Nat → (List Nat → Prop) → Prop
  | 0, _, acc, K => K acc
  | n + 1, x, acc, K => match x with
    | .agg cs => occsK n cs acc K
    | .tup cs => occsK n cs acc K
    | .fn _ cs => occsK n cs acc K
    | .ifc _ x => occK n x acc K
    | .ref r _ => occR r acc K
    | .slc r _ _ _ _ => occR r acc K
    | .el r _ _ _ => occR r acc K
    | .mp r => occR r acc K
    | .d _ => K acc
    | .undef => K acc
def occsK : Nat → List AV → List Nat → (List Nat → Prop) → Prop
  | 0, _, acc, K => K acc
  | n + 1, xs, acc, K => match xs with
    | [] => K acc
    | x :: r => occK n x acc fun acc => occsK n r acc K
end
def occMK : List (AV × AV) → List Nat → (List Nat → Prop) → Prop
  | [], acc, K => K acc
  | (_, x) :: r, acc, K => occK 100 x acc fun acc => occMK r acc K
def occLLK : List (List AV) → List Nat → (List Nat → Prop) → Prop
  | [], acc, K => K acc
  | x :: r, acc, K => occsK 100 x acc fun acc => occLLK r acc K
def occBK (ab : AB) (acc : List Nat) (K : List Nat → Prop) : Prop := match ab with
  | .cells cs => occsK 100 cs acc K
  | .arow _ rows => occLLK rows acc K
  | .map es => occMK es acc K
  | .row _ _ => K acc
  | .dmap _ => K acc
  | .dead => K acc
def reachK : Nat → List (Nat × AB) → Nat → List Nat → (List Nat → Prop) → Prop
  | 0, _, _, acc, K => K acc
  | n + 1, s, j, acc, K => match acc[j]? with
    | none => K acc
    | some i => match sfind s i with
      | none => K acc
      | some ab => occBK ab acc fun acc => fN (j + 1) fun j => reachK n s j acc K
theorem addK_some {i : Nat} {acc : List Nat} {K : List Nat → Prop} (h : addK i acc K) : ∃ l, K l := by
  unfold addK at h
  split at h
  · exact ⟨_, h⟩
  · rw [fN_eq, appF_eq] at h; exact ⟨_, h⟩
theorem occR_some {r : Rf} {acc : List Nat} {K : List Nat → Prop} (h : occR r acc K) : ∃ l, K l := by
  unfold occR at h
  split at h
  · exact addK_some h
  · exact ⟨_, h⟩
mutual
theorem occK_some : ∀ {n : Nat} {x : AV} {acc : List Nat} {K : List Nat → Prop}, occK n x acc K → ∃ l, K l
  | 0, _, _, _, h => by simp only [occK] at h; exact ⟨_, h⟩
  | n + 1, x, acc, K, h => by
    unfold occK at h
    split at h
    · exact occsK_some h
    · exact occsK_some h
    · exact occsK_some h
    · exact occK_some h
    · exact occR_some h
    · exact occR_some h
    · exact occR_some h
    · exact occR_some h
    · exact ⟨_, h⟩
    · exact ⟨_, h⟩
theorem occsK_some : ∀ {n : Nat} {x : List AV} {acc : List Nat} {K : List Nat → Prop}, occsK n x acc K → ∃ l, K l
  | 0, _, _, _, h => by simp only [occsK] at h; exact ⟨_, h⟩
  | n + 1, x, acc, K, h => by
    unfold occsK at h
    split at h
    · exact ⟨_, h⟩
    · obtain ⟨l, h⟩ := occK_some h
      exact occsK_some h
end
theorem occMK_some : ∀ {x : List (AV × AV)} {acc : List Nat} {K : List Nat → Prop}, occMK x acc K → ∃ l, K l
  | [], _, _, h => ⟨_, h⟩
  | (_, x) :: r, acc, K, h => by
    obtain ⟨l, h⟩ := occK_some h
    exact occMK_some h
theorem occLLK_some : ∀ {x : List (List AV)} {acc : List Nat} {K : List Nat → Prop}, occLLK x acc K → ∃ l, K l
  | [], _, _, h => ⟨_, h⟩
  | x :: r, acc, K, h => by
    obtain ⟨l, h⟩ := occsK_some h
    exact occLLK_some h
theorem occBK_some {ab : AB} {acc : List Nat} {K : List Nat → Prop} (h : occBK ab acc K) : ∃ l, K l := by
  unfold occBK at h
  split at h
  · exact occsK_some h
  · exact occLLK_some h
  · exact occMK_some h
  · exact ⟨_, h⟩
  · exact ⟨_, h⟩
  · exact ⟨_, h⟩
theorem reachK_some : ∀ {n : Nat} {s : List (Nat × AB)} {j : Nat} {acc : List Nat} {K : List Nat → Prop}, reachK n s j acc K → ∃ l, K l
  | 0, _, _, _, _, h => ⟨_, h⟩
  | n + 1, s, j, acc, K, h => by
    unfold reachK at h
    split at h
    · exact ⟨_, h⟩
    · split at h
      · exact ⟨_, h⟩
      · obtain ⟨l, h⟩ := occBK_some h
        rw [fN_eq] at h
        exact reachK_some h
/-- How many names a callee tells of, and a name that nobody has. -/
def topK : List (Nat × AB) → Nat → (Nat → Prop) → Prop
  | [], m, K => K m
  | (i, _) :: r, m, K => match Nat.ble m i with
    | true => fN (i + 1) fun m => topK r m K
    | false => topK r m K
def namesK : Nat → Nat → List Nat → (List Nat → Prop) → Prop
  | 0, _, acc, K => K acc
  | n + 1, m, acc, K => appF acc [m] fun acc => fN (m + 1) fun m => namesK n m acc K
def tauK (s : List (Nat × AB)) (ρ : List Nat) (s1 : List (Nat × AB)) (K : List Nat → Prop) : Prop :=
  fLen ρ lits 0 fun k => topK s1 k fun m => topK s 0 fun f => fN (m - k) fun d => namesK d f [] K
theorem topK_some : ∀ {s : List (Nat × AB)} {m : Nat} {K : Nat → Prop}, topK s m K → ∃ l, K l
  | [], _, _, h => ⟨_, h⟩
  | (i, _) :: r, m, K, h => by
    unfold topK at h
    split at h
    · rw [fN_eq] at h; exact topK_some h
    · exact topK_some h
theorem namesK_some : ∀ {n m : Nat} {acc : List Nat} {K : List Nat → Prop}, namesK n m acc K → ∃ l, K l
  | 0, _, _, _, h => ⟨_, h⟩
  | n + 1, m, acc, K, h => by
    unfold namesK at h
    rw [appF_eq, fN_eq] at h
    exact namesK_some h
theorem tauK_some {s : List (Nat × AB)} {ρ : List Nat} {s1 : List (Nat × AB)} {K : List Nat → Prop} (h : tauK s ρ s1 K) : ∃ l, K l := by
  unfold tauK at h
  rw [fLen_eq] at h
  obtain ⟨m, h⟩ := topK_some h
  obtain ⟨f, h⟩ := topK_some h
  rw [fN_eq] at h
  exact namesK_some h

def capok (n bytes : Nat) : Prop := (2 * n + 1024) * bytes ≤ 281474976710656 ∧ n ≤ 4611686018427387904
def veff (P : Program) (cx : Ctx) (rh : Operand → AV) (L : List AB) (s : List (Nat × AB)) (op : Op) (K : AV → List AB → List (Nat × AB) → Prop) : Prop := match op with
  | .store t x y => match cx.T t with
    | some ti => match rh x with
      | .ref (.l k) off => match L[k]? with
        | some (.cells cs) => match boxable (rh y) && Nat.beq (rh y).cells.length ti.size && Nat.ble (off + ti.size) cs.length with
          | true => K .undef (L.set k (.cells (setN cs off (rh y).cells))) s
          | false => False
        | _ => False
      | .ref (.g id) off => match sfind s id with
        | some (.cells cs) => match boxable (rh y) && Nat.beq (rh y).cells.length ti.size && clL (rh y).cells && Nat.ble (off + ti.size) cs.length with
          | true => K .undef L (sput s id (.cells (setN cs off (rh y).cells)))
          | false => False
        | _ => False
      | .el (.g id) sz i j => match sfind s id with
        | some (.row sz' rows) => match undD (rh y).cells with
          | some xs => match boxable (rh y) && Nat.beq xs.length ti.size && Nat.ble (j + ti.size) sz && Nat.beq sz' sz with
            | true => ∃ row, rows[i]? = some row ∧ K .undef L (sput s id (.row sz (rows.set i (setN row j xs))))
            | false => False
          | none => False
        | _ => False
      | _ => False
    | none => False
  | .makeSlice t x y => match velem cx.T t with
    | some te => match rh x with
      | .d (.int _ l) => match rh y with
        | .d (.int _ c) => fNew s fun n => ∃ len cap : Nat, (l = len ∧ c = cap ∧ len ≤ cap ∧ cap * te.bytes ≤ 281474976710656 ∧ cap ≤ 4611686018427387904) ∧ K (.slc (.g n) te.size 0 len cap) L (s ++ [(n, .row te.size (List.replicate len te.zero))])
        | _ => False
      | _ => False
    | none => False
  | .box _ x => match boxable (rh x) && clL (rh x).cells with
    | true => fNew s fun n => K (.ref (.g n) 0) L (s ++ [(n, .cells (rh x).cells)])
    | false => False
  | .alloc t => match cx.T t with
    | some ti => fNew s fun n => K (.ref (.g n) 0) L (s ++ [(n, .cells (ti.zero.map .d))])
    | none => False
  | .makeMap _ none => fNew s fun n => K (.mp (.g n)) L (s ++ [(n, .dmap [])])
  | .binOp op t x (.const (.slice none 0 0)) _ => match velem cx.T t with
    | some _ => match op with
      | .eql => nilK (rh x) fun b => K (.d (.bool b)) L s
      | .neq => nilK (rh x) fun b => K (.d (.bool (!b))) L s
      | _ => False
    | none => False
  | .mapUpdate t x k y => match cx.T t with
    | some ti => match ti.u with
      | .map kt _ => match flatK cx.T kt with
        | some c => match dxOf (rh k) with
          | some kx => match dxOf (rh y) with
            | some vx => match rh x with
              | .mp (.g id) => match sfind s id with
                | some (.dmap es) => P.stoodInHeld kt = false ∧ ∃ es', (kgood c kx = true ∧ (∀ e ∈ es, kgood c e.1 = true) ∧ dput es kx vx es') ∧ K .undef L (sput s id (.dmap es'))
                | _ => False
              | _ => False
            | none => False
          | none => False
        | none => False
      | _ => False
    | none => False
  | .call c => match c.callee with
    | .builtin .append => match c.args.toList with
      | [x, y] => match c.argTypes.toList with
        | [t, t2] => match velem cx.T t with
          | some te => match velem cx.T t2 with
            | some _ => match te.size with
              | 0 => False
              | _ + 1 => srcK s te.size (rh y) fun rows => match rh x with
                | .d .nil => capok rows.length te.bytes ∧ match rows with
                  | [] => K (.d .nil) L s
                  | r :: rs => fNew s fun n => ∀ c, (r :: rs).length ≤ c → K (.slc (.g n) te.size 0 (r :: rs).length c) L (s ++ [(n, .row te.size (r :: rs))])
                | .d .emp => capok rows.length te.bytes ∧ match rows with
                  | [] => K (.d .emp) L s
                  | r :: rs => fNew s fun n => ∀ c, (r :: rs).length ≤ c → K (.slc (.g n) te.size 0 (r :: rs).length c) L (s ++ [(n, .row te.size (r :: rs))])
                | .slc (.g id) sz 0 len _ => match sfind s id with
                  | some (.row sz' old) => match Nat.beq sz te.size && Nat.beq sz' te.size with
                    | true => len ≤ old.length ∧ capok (len + rows.length) te.bytes ∧ fNew s fun n => ∀ c, len + rows.length ≤ c → K (.slc (.g n) te.size 0 (len + rows.length) c) L (sput s id .dead ++ [(n, .row te.size (old.take len ++ rows))])
                    | false => False
                  | _ => False
                | _ => False
            | none => match cx.T t2 with
              | some t2i => match t2i.u with
                | .int _ => match te.size with
                  | 0 => False
                  | _ + 1 => match rh x with
                    | .slc (.g id) sz off len cap => match sfind s id with
                      | some (.row sz' old) => match Nat.beq sz te.size && Nat.beq sz' te.size with
                        | true => match rh y with
                          | .d (.int _ m) => ∃ k : Nat, (m = k ∧ 0 < k ∧ cap < len + k ∧ off + len ≤ old.length ∧ capok (len + k) te.bytes) ∧ fNew s fun n => ∀ c, len + k ≤ c → K (.slc (.g n) te.size 0 (len + k) c) L (s ++ [(n, .row te.size ((old.drop off).take len ++ List.replicate k te.zero))])
                          | _ => False
                        | false => False
                      | _ => False
                    | _ => False
                | _ => False
              | none => False
          | none => False
        | _ => False
      | _ => False
    | .builtin .copy => match c.args.toList with
      | [x, y] => match c.argTypes.toList with
        | [t, t2] => match velem cx.T t with
          | some te => match velem cx.T t2 with
            | some _ => match te.size with
              | 0 => False
              | _ + 1 => match rh x with
                | .slc (.g id) sz off len _ => match sfind s id with
                  | some (.row sz' old) => match Nat.beq sz te.size && Nat.beq sz' te.size with
                    | true => off ≤ old.length ∧ srcN s te.size len (rh y) fun l2 rows => K (.d (.int .i64 ((min l2 len : Nat) : Int))) L (sput s id (.row te.size (splice old off rows)))
                    | false => False
                  | _ => False
                | _ => False
            | none => False
          | none => False
        | _ => False
      | _ => False
    | .builtin .clear => match c.args.toList with
      | [x] => match c.argTypes.toList with
        | [t] => match velem cx.T t with
          | some te => match rh x with
            | .slc (.g id) sz off len _ => match sfind s id with
              | some (.row sz' old) => match Nat.beq sz te.size && Nat.beq sz' te.size with
                | true => off ≤ old.length ∧ K (.tup []) L (sput s id (.row te.size (splice old off (List.replicate len te.zero))))
                | false => False
              | _ => False
            | _ => False
          | none => False
        | _ => False
      | _ => False
    | .builtin .delete => match c.args.toList with
      | [x, k] => match c.argTypes.toList with
        | [t, _] => match cx.T t with
          | some ti => match ti.u with
            | .map kt _ => match flatK cx.T kt with
              | some c => match dxOf (rh k) with
                | some kx => match rh x with
                  | .mp (.g id) => match sfind s id with
                    | some (.dmap es) => P.stoodInHeld kt = false ∧ ∃ es', (kgood c kx = true ∧ (∀ e ∈ es, kgood c e.1 = true) ∧ ddel es kx es') ∧ K (.tup []) L (sput s id (.dmap es'))
                    | _ => False
                  | _ => False
                | none => False
              | none => False
            | _ => False
          | none => False
        | _ => False
      | _ => False
    | .value f => match rh f with
      | .fn g caps => fAVs 100 (c.args.toList.map rh ++ caps) fun args => occsK 100 args [] fun ρ0 => reachK 50 s 0 ρ0 fun ρ => match nodupB ρ with
        | true => match rnL (toF ρ) args with
          | some args1 => fAVs 100 args1 fun args1 => match selS ρ s ρ 0 with
            | some s0 => fSt s0 fun s0 => ∃ args' R, (WkL args1 args' ∧ Contract P cx.G g args' s0 R) ∧ ∀ res s1, R res s1 → tauK s ρ s1 fun τ => match nodupB (ρ ++ τ) && allNew s τ && covers s1 ρ.length with
              | true => match putS (ρ ++ τ) s1 s with
                | some s' => match res.rn (frF (ρ ++ τ)) with
                  | some res' => K res' L s'
                  | none => False
                | none => False
              | false => False
            | none => False
          | none => False
        | false => False
      | _ => False
    | _ => False
  | _ => False
def isEff : Op → Bool
  | .store _ _ _ => true
  | .box _ _ => true
  | .alloc _ => true
  | .makeMap _ none => true
  | .mapUpdate _ _ _ _ => true
  | .makeSlice _ _ _ => true
  | .binOp op _ _ (.const (.slice none 0 0)) _ => match op with
    | .eql => true
    | .neq => true
    | _ => false
  | .call c => match c.callee with
    | .value _ => true
    | .builtin .delete => true
    | .builtin .append => true
    | .builtin .copy => true
    | .builtin .clear => true
    | _ => false
  | _ => false

theorem EJ.mono {P : Program} {G : Gl} {o : Oper} {rh : Operand → AV} {L : List AB} {s : List (Nat × AB)} {K K' : AV → List AB → List (Nat × AB) → Prop} (h : EJ P G o rh L s K) (hK : ∀ v L' s', K v L' s' → K' v L' s') : EJ P G o rh L s K' :=
  fun M F U w a hS hG hx => Oper.wp_mono (fun _ _ ⟨v, L', s', val, M', F', U', hk, rest⟩ => ⟨v, L', s', val, M', F', U', hK _ _ _ hk, rest⟩) (h M F U w a hS hG hx)

theorem veff_sound {P : Program} {cx : Ctx} (hT : TabOK P cx.T) {rh : Operand → AV} {L : List AB} {s : List (Nat × AB)} {o : Oper} {K : AV → List AB → List (Nat × AB) → Prop} (h : veff P cx rh L s o.op K) : EJ P cx.G o rh L s K := by
  generalize hop : o.op = op at h
  cases op with
  | store t x y =>
    simp only [veff] at h
    split at h <;> try exact h.elim
    rename_i ti ht
    split at h
    · rename_i k off hx
      split at h <;> try exact h.elim
      rename_i cs hk
      split at h <;> try exact h.elim
      rename_i hb
      simp only [Bool.and_eq_true] at hb
      exact ej_store_cells hT ht hop hx hb.1.1 (beq_t hb.1.2) (Nat.le_of_ble_eq_true hb.2) (fun id e => by cases e) (.l L s k hk) h
    · rename_i id off hx
      split at h <;> try exact h.elim
      rename_i cs hm
      split at h <;> try exact h.elim
      rename_i hb
      simp only [Bool.and_eq_true] at hb
      exact ej_store_cells hT ht hop hx hb.1.1.1 (beq_t hb.1.1.2) (Nat.le_of_ble_eq_true hb.2) (fun _ _ => hb.1.2) (.gput _ hm) h
    · rename_i id sz i j hx
      split at h <;> try exact h.elim
      rename_i sz' rows hm
      split at h <;> try exact h.elim
      rename_i xs hxs
      split at h <;> try exact h.elim
      rename_i hb
      simp only [Bool.and_eq_true] at hb
      obtain ⟨row, hr, h⟩ := h
      have := beq_t hb.2
      subst this
      exact ej_store_el hT ht hop hx hm hr hb.1.1.1 hxs (beq_t hb.1.1.2) (Nat.le_of_ble_eq_true hb.1.2) h
    · exact h.elim
  | makeSlice t x y =>
    simp only [veff] at h
    split at h <;> try exact h.elim
    rename_i te hte
    obtain ⟨ti, e, h1, h2, h3⟩ := velem_inv hte
    split at h <;> try exact h.elim
    rename_i k1 l hx
    split at h <;> try exact h.elim
    rename_i k2 c hy
    obtain ⟨n, hn, len, cap, ⟨p1, p2, q1, q2, q3⟩, h4⟩ := fNew_some h
    subst p1
    subst p2
    exact ej_makeSlice hT h1 h2 h3 hop hx hy q1 q2 q3 hn h4
  | box t x =>
    simp only [veff] at h
    split at h <;> try exact h.elim
    rename_i hb
    simp only [Bool.and_eq_true] at hb
    obtain ⟨n, hn, h⟩ := fNew_some h
    exact ej_box hop hb.1 hb.2 hn h
  | alloc t =>
    simp only [veff] at h
    split at h <;> try exact h.elim
    rename_i ti ht
    obtain ⟨n, hn, h⟩ := fNew_some h
    exact ej_alloc hT ht hop hn h
  | binOp op t x y ty =>
    by_cases hy : y = .const (.slice none 0 0)
    · subst hy
      simp only [veff] at h
      split at h <;> try exact h.elim
      rename_i te hte
      obtain ⟨ti, e, h1, h2, h3⟩ := velem_inv hte
      split at h <;> try exact h.elim
      · exact ej_isnil hT h1 h2 hop (.inl rfl) (by simpa using h)
      · exact ej_isnil hT h1 h2 hop (.inr rfl) (by simpa using h)
    · have : False := by
        unfold veff at h
        split at h <;> simp_all
      exact this.elim
  | makeMap t r =>
    cases r with
    | none =>
      simp only [veff] at h
      obtain ⟨n, hn, h⟩ := fNew_some h
      exact ej_makeMap hop hn h
    | some r => exact (by simp [veff] at h)
  | mapUpdate t x k y =>
    simp only [veff] at h
    split at h <;> try exact h.elim
    rename_i ti ht
    split at h <;> try exact h.elim
    rename_i kt et hu
    split at h <;> try exact h.elim
    rename_i c hk
    split at h <;> try exact h.elim
    rename_i kx hkx
    split at h <;> try exact h.elim
    rename_i vx hvx
    split at h <;> try exact h.elim
    rename_i id hx
    split at h <;> try exact h.elim
    rename_i es hm
    obtain ⟨hs, es', ⟨h1, h2, h3⟩, h⟩ := h
    exact ej_mapUpdate hT ht hu hk hs hop hx hm (dxOf_av hkx) (dxOf_av hvx) h1 h2 h3 h
  | call c =>
    simp only [veff] at h
    obtain ⟨callee, args, tys⟩ := c
    simp only at h
    split at h <;> try exact h.elim
    · split at h <;> try exact h.elim
      rename_i x y hargs
      split at h <;> try exact h.elim
      rename_i t t2 htys
      have ha := arr_toList hargs
      have hb := arr_toList htys
      subst ha
      subst hb
      split at h <;> try exact h.elim
      rename_i te hte
      obtain ⟨ti, e, h1, h2, h3⟩ := velem_inv hte
      split at h
      rotate_left
      · split at h <;> try exact h.elim
        rename_i t2i ht2
        split at h <;> try exact h.elim
        rename_i kn hu2
        split at h <;> try exact h.elim
        rename_i m hsz
        have hpos : 0 < te.size := by omega
        split at h <;> try exact h.elim
        rename_i id sz off len cap hx
        split at h <;> try exact h.elim
        rename_i sz' old hid
        split at h <;> try exact h.elim
        rename_i hb
        simp only [Bool.and_eq_true] at hb
        have e1 := beq_t hb.1
        have e2 := beq_t hb.2
        subst e1
        subst e2
        split at h <;> try exact h.elim
        rename_i ky mm hy
        obtain ⟨k, ⟨p1, p2, p3, p4, p5, p6⟩, h⟩ := h
        subst p1
        obtain ⟨n, hn, h⟩ := fNew_some h
        exact ej_append_zeros hT h1 h2 h3 ht2 hu2 hpos hop hx hid p4 hy p2 p3 hn p5 p6 h
      rename_i te2 hte2
      obtain ⟨ti2, e2, g1, g2, g3⟩ := velem_inv hte2
      split at h <;> try exact h.elim
      rename_i m hsz
      have hpos : 0 < te.size := by omega
      obtain ⟨rows, hsrc, h⟩ := srcK_one h
      split at h <;> try exact h.elim
      · rename_i hx
        obtain ⟨⟨c1, c2⟩, h⟩ := h
        cases rows with
        | nil => exact ej_append_new (n := 0) (rows := []) hT h1 h2 h3 g1 g2 hpos hop (.inl hx) hsrc (fun e => absurd rfl e) c1 c2 (fun _ => by rw [hx]; exact h) (fun e => absurd rfl e)
        | cons r rs =>
          obtain ⟨n, hn, h⟩ := fNew_some h
          exact ej_append_new hT h1 h2 h3 g1 g2 hpos hop (.inl hx) hsrc (fun _ => hn) c1 c2 (fun e => (by cases e)) (fun _ => h)
      · rename_i hx
        obtain ⟨⟨c1, c2⟩, h⟩ := h
        cases rows with
        | nil => exact ej_append_new (n := 0) (rows := []) hT h1 h2 h3 g1 g2 hpos hop (.inr hx) hsrc (fun e => absurd rfl e) c1 c2 (fun _ => by rw [hx]; exact h) (fun e => absurd rfl e)
        | cons r rs =>
          obtain ⟨n, hn, h⟩ := fNew_some h
          exact ej_append_new hT h1 h2 h3 g1 g2 hpos hop (.inr hx) hsrc (fun _ => hn) c1 c2 (fun e => (by cases e)) (fun _ => h)
      · rename_i id sz len cap hx
        split at h <;> try exact h.elim
        rename_i sz' old hid
        split at h <;> try exact h.elim
        rename_i hb
        simp only [Bool.and_eq_true] at hb
        have e1 := beq_t hb.1
        have e2 := beq_t hb.2
        subst e1
        subst e2
        obtain ⟨hl, ⟨c1, c2⟩, h⟩ := h
        obtain ⟨n, hn, h⟩ := fNew_some h
        exact ej_append_own hT h1 h2 h3 g1 g2 hpos hop hx hid hl hsrc hn c1 c2 h
    · split at h <;> try exact h.elim
      rename_i x y hargs
      split at h <;> try exact h.elim
      rename_i t t2 htys
      have ha := arr_toList hargs
      have hb := arr_toList htys
      subst ha
      subst hb
      split at h <;> try exact h.elim
      rename_i te hte
      obtain ⟨ti, e, h1, h2, h3⟩ := velem_inv hte
      split at h <;> try exact h.elim
      rename_i te2 hte2
      obtain ⟨ti2, e2, g1, g2, g3⟩ := velem_inv hte2
      split at h <;> try exact h.elim
      rename_i m hsz
      have hpos : 0 < te.size := by omega
      split at h <;> try exact h.elim
      rename_i id sz off len cap hx
      split at h <;> try exact h.elim
      rename_i sz' old hid
      split at h <;> try exact h.elim
      rename_i hb
      simp only [Bool.and_eq_true] at hb
      have e1 := beq_t hb.1
      have e2 := beq_t hb.2
      subst e1
      subst e2
      obtain ⟨h0, h⟩ := h
      obtain ⟨l2, rows, hsrc, h⟩ := srcN_one h
      exact ej_copy hT h1 h2 h3 g1 g2 hpos hop hx hid h0 hsrc h
    · split at h <;> try exact h.elim
      rename_i x hargs
      split at h <;> try exact h.elim
      rename_i t htys
      have ha := arr_toList hargs
      have hb := arr_toList htys
      subst ha
      subst hb
      split at h <;> try exact h.elim
      rename_i te hte
      obtain ⟨ti, e, h1, h2, h3⟩ := velem_inv hte
      split at h <;> try exact h.elim
      rename_i id sz off len cap hx
      split at h <;> try exact h.elim
      rename_i sz' old hid
      split at h <;> try exact h.elim
      rename_i hb
      simp only [Bool.and_eq_true] at hb
      have e1 := beq_t hb.1
      have e2 := beq_t hb.2
      subst e1
      subst e2
      exact ej_clear hT h1 h2 h3 hop hx hid h.1 h.2
    · split at h <;> try exact h.elim
      rename_i x k hargs
      split at h <;> try exact h.elim
      rename_i t t2 htys
      have ha := arr_toList hargs
      have hb := arr_toList htys
      subst ha
      subst hb
      split at h <;> try exact h.elim
      rename_i ti ht
      split at h <;> try exact h.elim
      rename_i kt et hu
      split at h <;> try exact h.elim
      rename_i c hk
      split at h <;> try exact h.elim
      rename_i kx hkx
      split at h <;> try exact h.elim
      rename_i id hx
      split at h <;> try exact h.elim
      rename_i es hm
      obtain ⟨hs, es', ⟨h1, h2, h3⟩, h⟩ := h
      exact ej_delete hT ht hu hk hs hop hx hm (dxOf_av hkx) h1 h2 h3 h
    split at h <;> try exact h.elim
    rename_i g caps hg
    rw [fAVs_eq] at h
    obtain ⟨ρ0, h⟩ := occsK_some h
    obtain ⟨ρ, h⟩ := reachK_some h
    split at h <;> try exact h.elim
    rename_i hnd
    split at h <;> try exact h.elim
    rename_i args1 hrn
    rw [fAVs_eq] at h
    split at h <;> try exact h.elim
    rename_i s0 hs0
    rw [fSt_eq] at h
    obtain ⟨args', R, ⟨h1, h2⟩, h3⟩ := h
    refine ej_call hop hg hrn h1 hnd hs0 h2 fun res s1 hR => ?_
    obtain ⟨τ, q⟩ := tauK_some (h3 res s1 hR)
    split at q <;> try exact q.elim
    rename_i q1
    simp only [Bool.and_eq_true] at q1
    split at q <;> try exact q.elim
    rename_i s' hs'
    split at q <;> try exact q.elim
    rename_i res' hres'
    exact ⟨τ, s', res', q1.1.1, q1.1.2, q1.2, hs', hres', q⟩
  | _ => exact (by simp [veff] at h)

/-- Guards that are known not to be met. -/
def deadC (dead : List (List (Nat × Bool))) (gs : List (Nat × Bool)) : Bool := dead.any fun c => c.all (inL gs)
def skipB (re : List RE) (dead : List (List (Nat × Bool))) (o : Oper) : Bool := match dead with
  | [] => false
  | _ :: _ => match o.guard with
    | none => false
    | some (j, p) => match rfind re j with
      | some e => deadC dead e.gs || (match e.v with
        | .d (.bool _) => deadC dead ((j, p) :: e.gs)
        | _ => false)
      | none => false
def isCallV : Op → Bool
  | .call c => match c.callee with
    | .value _ => true
    | _ => false
  | _ => false
def orB (b : Bool) (p q : Prop) : Prop := match b with
  | true => p ∨ q
  | false => q
def orC (b : Bool) (p q : Prop) : Prop := match b with
  | true => p ∨ q
  | false => p
theorem orC_or {b : Bool} {p q : Prop} (h : orC b p q) : p ∨ q := by
  cases b with
  | true => exact h
  | false => exact .inl h
theorem orB_or {b : Bool} {p q : Prop} (h : orB b p q) : p ∨ q := by
  cases b with
  | true => exact h
  | false => exact .inr h
def vseq (P : Program) (cx : Ctx) (env : Env) : List Oper → Nat → List RE → List (List (Nat × Bool)) → List AB → List (Nat × AB) → (List RE → List AB → List (Nat × AB) → Prop) → Prop
  | [], _, re, _, L, s, K => K re L s
  | o :: rest, i, re, dead, L, s, K => match skipB re dead o && okw cx.nt re o with
    | true => fG (gsOf re o.guard) fun gs => fO o.dst fun d => fN (i + 1) fun i1 => vseq P cx env rest i1 (⟨i, d, gs, .undef⟩ :: re) dead L s K
    | false => match okop cx.nt re o with
      | true => fG (gsOf re o.guard) fun gs => match isEff o.op with
        | true => orB (isCallV o.op) (vop P cx (sg re gs) (rho cx.G env re) L s o.op fun v new => fAV 100 v fun v => fApp L new fun L => fO o.dst fun d => fN (i + 1) fun i1 => vseq P cx env rest i1 (⟨i, d, gs, v⟩ :: re) dead L s K)
          (match gs with
            | [] => orC (isCallV o.op) (veff P cx (rho cx.G env re) L s o.op fun v L' s' => fAV 100 v fun v => fABs L' fun L' => fSt s' fun s' => fO o.dst fun d => fN (i + 1) fun i1 => vseq P cx env rest i1 (⟨i, d, [], v⟩ :: re) dead L' s' K)
              (EJ P cx.G o (rho cx.G env re) L s fun v L' s' => fAV 100 v fun v => fABs L' fun L' => fSt s' fun s' => fO o.dst fun d => fN (i + 1) fun i1 => vseq P cx env rest i1 (⟨i, d, [], v⟩ :: re) dead L' s' K)
            | g :: gr => (HG re (g :: gr) → veff P cx (rho cx.G env re) L s o.op fun v L' s' => fAV 100 v fun v => fABs L' fun L' => fSt s' fun s' => fO o.dst fun d => fN (i + 1) fun i1 => vseq P cx env rest i1 (⟨i, d, g :: gr, v⟩ :: re) dead L' s' K) ∧
                (¬ HG re (g :: gr) → fO o.dst fun d => fN (i + 1) fun i1 => vseq P cx env rest i1 (⟨i, d, g :: gr, .undef⟩ :: re) ((g :: gr) :: dead) L s K))
        | false => vop P cx (sg re gs) (rho cx.G env re) L s o.op fun v new => fAV 100 v fun v => fApp L new fun L => fO o.dst fun d => fN (i + 1) fun i1 => vseq P cx env rest i1 (⟨i, d, gs, v⟩ :: re) dead L s K
      | false => False

/-- What is known of the frame between two operations of the tail. -/
structure SI (cx : Ctx) (env : Env) (its : List It) (a0 : Act) (L : List AB) (s : List (Nat × AB)) (a : Act) (w : World) (M : Mp) (F U : Nat → Prop) : Prop where
  st : St M F U L s w
  gl : Glob cx.G F w
  slot : ∀ (i : Nat) (it : It), its[i]? = some it → ∀ d, it.o.dst = some d → (HG (reat its i) (gsAt its i it) → RV M F w it.v (slotv a d)) ∧ (¬ HG (reat its i) (gsAt its i it) → slotv a d = Go.undef)
  env : ∀ t, (∀ (i : Nat) (it : It), its[i]? = some it → it.o.dst ≠ some t) → RV M F w (look env t) (slotv a t)
  size : a.tmps.size = cx.nt
  defers : a.defers = a0.defers

section
variable {P : Program} {cx : Ctx} {env : Env} {its : List It} {a0 a : Act} {L : List AB} {s : List (Nat × AB)} {w : World} {M : Mp} {F U : Nat → Prop}

theorem si_operand (hok : ∀ (i : Nat) (it : It), its[i]? = some it → okw cx.nt (reat its i) it.o = true) (hI : SI cx env its a0 L s a w M F U) {x : Operand} {C : List (Nat × Bool)} (hC : HG (reat its its.length) C) (hu : us (reat its its.length) C x = true) :
    RV M F w (rho cx.G env (reat its its.length) x) (a.eval x) := by
  cases x with
  | const v => exact RV.cst v
  | func f => exact .fn f [] [] rfl (fun j x v hj _ => by simp at hj)
  | global g =>
    simp only [rho]
    cases hg : cx.G g with
    | none => exact .undef _
    | some cs => exact .d (hI.gl g cs hg)
  | tmp t =>
    simp only [rho, us] at hu ⊢
    rw [eval_tmp]
    cases hl : rlook (reat its its.length) t with
    | some e =>
      rw [hl] at hu
      obtain ⟨j, itj, hji, hitj, hdj, rfl, _⟩ := rlook_reat hl
      exact (hI.slot j itj hitj t hdj).1 (HG_move hok hitj (Nat.le_of_lt hji) (Nat.le_refl j) (HG_of_all hu hC))
    | none => exact hI.env t (fun j itj hitj hdj => rlook_none hl j itj (List.getElem?_eq_some_iff.1 hitj).1 hitj hdj)

theorem si_guard {ops : List Oper} (hok : ∀ (i : Nat) (it : It), its[i]? = some it → okw cx.nt (reat its i) it.o = true) (hpre : ∀ (i : Nat) (it : It), its[i]? = some it → ops[i]? = some it.o) (hI : SI cx env its a0 L s a w M F U) {o : Oper} (hg : gok (reat its its.length) o.guard = true) :
    Region.wanted o (yielded ops.toArray a.tmps) = true ↔ HG (reat its its.length) (gsOf (reat its its.length) o.guard) := by
  unfold Region.wanted
  cases hgd : o.guard with
  | none => simp [gsOf, HG]
  | some jp =>
    obtain ⟨j, p⟩ := jp
    rw [hgd] at hg
    simp only [gok] at hg
    cases hf : rfind (reat its its.length) j with
    | none => rw [hf] at hg; cases hg
    | some e =>
      rw [hf] at hg
      simp only at hg
      obtain ⟨itj, hji, hitj, he⟩ := rfind_reat hf
      subst he
      simp only at hg
      split at hg
      · rename_i b hv
        obtain ⟨t, ht⟩ := Option.isSome_iff_exists.1 hg
        have htn : t < a.tmps.size := by rw [hI.size]; exact (okw_dst (hok j itj hitj) ht).1
        simp only []
        rw [yielded_eq (hpre j itj hitj) ht htn]
        obtain ⟨hs1, hs2⟩ := hI.slot j itj hitj t ht
        have hchain : HG (reat its its.length) (gsOf (reat its its.length) (some (j, p))) ↔ b = p ∧ HG (reat its j) (gsAt its j itj) := by
          rw [HG_all]
          simp only [gsOf, hf, List.mem_cons, forall_eq_or_imp]
          have hlit : lit (reat its its.length) j p ↔ b = p := by unfold lit; rw [hf]; simp only [hv]
          rw [hlit]
          refine and_congr_right fun _ => ?_
          rw [← HG_all]
          exact ⟨fun h => HG_move hok hitj (Nat.le_of_lt hji) (Nat.le_refl j) h, fun h => HG_move hok hitj (Nat.le_refl j) (Nat.le_of_lt hji) h⟩
        rw [hchain]
        by_cases hj : HG (reat its j) (gsAt its j itj)
        · have h1 := hs1 hj
          rw [hv] at h1
          rw [h1.bool_inv]
          simp only [beq_iff_eq, Option.some.injEq]
          exact ⟨fun h => ⟨h, hj⟩, fun h => h.1⟩
        · rw [hs2 hj]
          exact ⟨fun h => (by cases h), fun h => absurd h.2 hj⟩
      · cases hg

theorem si_dead {ops : List Oper} (hok : ∀ (i : Nat) (it : It), its[i]? = some it → okw cx.nt (reat its i) it.o = true) (hpre : ∀ (i : Nat) (it : It), its[i]? = some it → ops[i]? = some it.o) (hI : SI cx env its a0 L s a w M F U) {o : Oper} {dead : List (List (Nat × Bool))}
    (hd : ∀ c ∈ dead, ¬ HG (reat its its.length) c) (ho : okw cx.nt (reat its its.length) o = true) (hs : skipB (reat its its.length) dead o = true) :
    Region.wanted o (yielded ops.toArray a.tmps) ≠ true ∧ ¬ HG (reat its its.length) (gsOf (reat its its.length) o.guard) := by
  have hs : (match o.guard with
    | none => false
    | some (j, p) => match rfind (reat its its.length) j with
      | some e => deadC dead e.gs || (match e.v with
        | .d (.bool _) => deadC dead ((j, p) :: e.gs)
        | _ => false)
      | none => false) = true := by
    unfold skipB at hs
    split at hs
    · cases hs
    · exact hs
  split at hs <;> try cases hs
  rename_i j p hg
  obtain ⟨e, hf, hsl⟩ := okw_guard ho hg
  rw [hf] at hs
  simp only [Bool.or_eq_true] at hs
  have dc : ∀ {gs : List (Nat × Bool)}, deadC dead gs = true → ¬ HG (reat its its.length) gs := fun h hgs => by
    unfold deadC at h
    obtain ⟨c, hc, hall⟩ := List.any_eq_true.1 h
    exact hd c hc (HG_of_all hall hgs)
  have hgs : gsOf (reat its its.length) o.guard = (j, p) :: e.gs := by simp only [hg, gsOf, hf]
  rcases hs with hs | hs
  · have hne := dc hs
    refine ⟨?_, fun h => hne ?_⟩
    · obtain ⟨itj, hji, hitj, he⟩ := rfind_reat hf
      subst he
      obtain ⟨t, ht⟩ := Option.isSome_iff_exists.1 hsl
      have htn : t < a.tmps.size := by rw [hI.size]; exact (okw_dst (hok j itj hitj) ht).1
      unfold Region.wanted
      rw [hg]
      simp only
      rw [yielded_eq (hpre j itj hitj) ht htn]
      have hj : ¬ HG (reat its j) (gsAt its j itj) := fun h => hne (HG_move hok hitj (Nat.le_refl j) (Nat.le_of_lt hji) h)
      rw [(hI.slot j itj hitj t ht).2 hj]
      simp [Go.undef]
    · rw [hgs, HG_all] at h
      rw [HG_all]
      exact fun l hl => h l (by simp [hl])
  · split at hs <;> try cases hs
    rename_i b hv
    have hne : ¬ HG (reat its its.length) (gsOf (reat its its.length) o.guard) := by rw [hgs]; exact dc hs
    refine ⟨fun hw => hne ((si_guard (ops := ops) hok hpre hI ?_).1 hw), hne⟩
    unfold gok
    rw [hg]
    simp only [hf, hv]
    exact hsl

theorem si_opn (hok : ∀ (i : Nat) (it : It), its[i]? = some it → okw cx.nt (reat its i) it.o = true) (hI : SI cx env its a0 L s a w M F U) {o : Oper} (hu : usall (reat its its.length) (gsOf (reat its its.length) o.guard) o.op = true)
    (hC : HG (reat its its.length) (gsOf (reat its its.length) o.guard)) : Opn o.op (rho cx.G env (reat its its.length)) M F w a := by
  unfold Opn
  split
  · rename_i c x y hop
    rw [hop] at hu
    simp only [usall, Bool.and_eq_true] at hu
    obtain ⟨⟨hu1, hu2⟩, hu3⟩ := hu
    refine ⟨si_operand hok hI hC hu1, fun p hp => ?_⟩
    have key : ∀ (q : Bool) (z : Operand), p = q → usp (reat its its.length) (gsOf (reat its its.length) o.guard) c q z = true → RV M F w (rho cx.G env (reat its its.length) z) (a.eval z) := by
      intro q z hpq hus
      cases z with
      | const v => exact si_operand hok hI hC rfl
      | func f => exact si_operand hok hI hC rfl
      | global g => exact si_operand hok hI hC rfl
      | tmp t =>
        simp only [usp] at hus
        cases hl : rlook (reat its its.length) t with
        | none => exact si_operand hok hI hC (by simp [us, hl])
        | some e =>
          rw [hl] at hus
          simp only at hus
          cases c with
          | tmp tc =>
            simp only at hus
            cases hlc : rlook (reat its its.length) tc with
            | none =>
              rw [hlc] at hus
              exact si_operand hok hI hC (by simp only [us, hl]; exact hus)
            | some ec =>
              rw [hlc] at hus
              simp only at hus
              have hC2 : HG (reat its its.length) ((ec.idx, q) :: gsOf (reat its its.length) o.guard) := by
                rw [HG_all]
                intro l hl'
                rcases List.mem_cons.1 hl' with rfl | hl'
                · obtain ⟨jc, itc, hjc, hitc, hdc, hec, _⟩ := rlook_reat hlc
                  subst hec
                  unfold lit
                  rw [reat_at hjc hitc]
                  simp only [rho, hlc] at hp
                  simp only [hp]
                  exact hpq
                · exact HG_all.1 hC l hl'
              exact si_operand hok hI hC2 (by simp only [us, hl]; exact hus)
          | const v => exact si_operand hok hI hC (by simp only [us, hl]; exact hus)
          | func f => exact si_operand hok hI hC (by simp only [us, hl]; exact hus)
          | global g => exact si_operand hok hI hC (by simp only [us, hl]; exact hus)
    exact ⟨fun h => key true x h hu2, fun h => key false y h hu3⟩
  · rename_i hop
    intro x hx
    refine si_operand hok hI hC ?_
    have : o.op.operands.toList.all (us (reat its its.length) (gsOf (reat its its.length) o.guard)) = true := by
      revert hu
      unfold usall
      split
      · rename_i c x y h; exact absurd h (hop c x y)
      · exact fun h => h
    exact List.all_eq_true.1 this x hx
end
end Go.Pv
