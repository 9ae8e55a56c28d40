/- Stepping through code with values that are not known: what must hold for a piece of code to come to 'Q'. No condition. -/
import Derived.Test.YtnibcojenlijgaaGreatDoorEv22
set_option linter.unusedVariables false
set_option linter.unusedSimpArgs false
namespace Go.Proofs.YtnibcojenlijgaaGreatDoor.Ev
open Go Go.RowKit

/-! ### Values in full -/
def force0 (v : AV) (K : AV → Prop) : Prop := match v with
  | .top => K .top
  | .bool b => K (.bool b)
  | .int k n => K (.int k n)
  | .str s => K (.str s)
  | .agg cs => K (.agg cs)
  | .tup vs => K (.tup vs)
  | .rs es => K (.rs es)
  | .rp cs off => K (.rp cs off)
  | .sl l off n cap sz => K (.sl l off n cap sz)
  | .ptr l i off => K (.ptr l i off)
  | .nils => K .nils
  | .nilp => K .nilp
  | .nilf => K .nilf
  | .fn f a c => K (.fn f a c)
def forceL0 : List AV → (List AV → Prop) → Prop
  | [], K => K []
  | v :: vs, K => force0 v fun v => forceL0 vs fun vs => K (v :: vs)
def force1 (v : AV) (K : AV → Prop) : Prop := match v with
  | .top => K .top
  | .bool b => K (.bool b)
  | .int k n => K (.int k n)
  | .str s => K (.str s)
  | .agg cs => forceL0 cs fun cs => K (.agg cs)
  | .tup vs => K (.tup vs)
  | .rs es => K (.rs es)
  | .rp cs off => forceL0 cs fun cs => K (.rp cs off)
  | .sl l off n cap sz => K (.sl l off n cap sz)
  | .ptr l i off => K (.ptr l i off)
  | .nils => K .nils
  | .nilp => K .nilp
  | .nilf => K .nilf
  | .fn f a c => forceL0 a fun a => forceL0 c fun c => K (.fn f a c)
def forceL1 : List AV → (List AV → Prop) → Prop
  | [], K => K []
  | v :: vs, K => force1 v fun v => forceL1 vs fun vs => K (v :: vs)
def force2 (v : AV) (K : AV → Prop) : Prop := match v with
  | .top => K .top
  | .bool b => K (.bool b)
  | .int k n => K (.int k n)
  | .str s => K (.str s)
  | .agg cs => forceL0 cs fun cs => K (.agg cs)
  | .tup vs => forceL1 vs fun vs => K (.tup vs)
  | .rs es => K (.rs es)
  | .rp cs off => forceL0 cs fun cs => K (.rp cs off)
  | .sl l off n cap sz => K (.sl l off n cap sz)
  | .ptr l i off => K (.ptr l i off)
  | .nils => K .nils
  | .nilp => K .nilp
  | .nilf => K .nilf
  | .fn f a c => forceL1 a fun a => forceL1 c fun c => K (.fn f a c)
theorem force0_eq (v : AV) (K : AV → Prop) : force0 v K = K v := by cases v <;> rfl
theorem forceL0_eq : ∀ (vs : List AV) (K : List AV → Prop), forceL0 vs K = K vs
  | [], K => rfl
  | v :: vs, K => by simp only [forceL0]; rw [force0_eq, forceL0_eq vs]
theorem force1_eq (v : AV) (K : AV → Prop) : force1 v K = K v := by cases v <;> simp only [force1, forceL0_eq]
theorem forceL1_eq : ∀ (vs : List AV) (K : List AV → Prop), forceL1 vs K = K vs
  | [], K => rfl
  | v :: vs, K => by simp only [forceL1]; rw [force1_eq, forceL1_eq vs]
theorem force2_eq (v : AV) (K : AV → Prop) : force2 v K = K v := by cases v <;> simp only [force2, forceL0_eq, forceL1_eq]

/-! ### One operation -/
structure SomeP {α : Type} (o : Option α) (K : α → Prop) : Prop where
  ex : ∃ v, o = some v ∧ K v
theorem SomeP.mk' {α : Type} {o : Option α} {K : α → Prop} {v : α} (h : o = some v) (hk : K v) : SomeP o K := ⟨v, h, hk⟩
def eqB : List (Nat × Nat) → List AV → List AV → Option Bool
  | [], _, _ => some true
  | (off, kind) :: r, xs, ys =>
    match xs[off]?, ys[off]? with
    | some x, some y => match eqLeaf kind x y with
      | some b => match eqB r xs ys with
        | some c => some (b && c)
        | none => none
      | none => none
    | _, _ => none
theorem eqB_eq : ∀ (ls : List (Nat × Nat)) {xs ys : List AV} {b : Bool}, eqB ls xs ys = some b → eqLeaves ls xs ys = some b := by
  intro ls
  induction ls with
  | nil => intro xs ys b h; exact h
  | cons l ls ih =>
    obtain ⟨off, kind⟩ := l
    intro xs ys b h
    simp only [eqB] at h
    simp only [eqLeaves]
    split at h
    · rename_i x y hx hy
      rw [hx, hy]
      simp only
      cases hl : eqLeaf kind x y with
      | none => rw [hl] at h; cases h
      | some c =>
        rw [hl] at h
        simp only at h ⊢
        cases hr : eqB ls xs ys with
        | none => rw [hr] at h; cases h
        | some d =>
          rw [hr] at h
          simp only [Option.some.injEq] at h
          subst h
          cases c with
          | true => exact ih hr
          | false => rfl
    · cases h
def idxStr (s : ByteArray) (i : Int) : Option AV := if 0 ≤ i then (match s[i.toNat]? with | some b => some (.int .u8 b.toNat) | none => none) else none
def sliceS (s : ByteArray) (lo hi : Int) : Option AV := if 0 ≤ lo ∧ lo ≤ hi ∧ hi ≤ s.size then some (.str (s.extract lo.toNat hi.toNat)) else none
def arrIx (len : Nat) (i : Int) : Option Nat := if 0 ≤ i ∧ i < len then some i.toNat else none
def mksA (z : List AV) (b : Nat) (n : Int) : Option Nat := if 0 ≤ n ∧ n * b ≤ 140737488355328 ∧ 0 < b ∧ 0 < z.length ∧ n ≤ 9223372036854775807 then some n.toNat else none
def forceLL : List (List AV) → (List (List AV) → Prop) → Prop
  | [], K => K []
  | e :: es, K => forceL0 e fun e => forceLL es fun es => K (e :: es)
theorem forceLL_eq : ∀ (es : List (List AV)) (K : List (List AV) → Prop), forceLL es K = K es
  | [], K => rfl
  | e :: es, K => by simp only [forceLL]; rw [forceL0_eq, forceLL_eq es]

def forceBL : List (Nat × Blk) → (List (Nat × Blk) → Prop) → Prop
  | [], K => K []
  | (k, b) :: r, K => match b with
    | ⟨sz, es⟩ => forceBL r fun r => K ((k, ⟨sz, es⟩) :: r)
theorem forceBL_eq : ∀ (l : List (Nat × Blk)) (K : List (Nat × Blk) → Prop), forceBL l K = K l
  | [], K => rfl
  | (k, b) :: r, K => by obtain ⟨sz, es⟩ := b; simp only [forceBL]; rw [forceBL_eq r]
def forceH (h : Hp) (K : Hp → Prop) : Prop := match h with
  | ⟨bl, nx⟩ => forceBL bl fun bl => K ⟨bl, nx⟩
theorem forceH_eq (h : Hp) (K : Hp → Prop) : forceH h K = K h := by obtain ⟨bl, nx⟩ := h; simp only [forceH, forceBL_eq]
def stepS (h : Hp) (sz : Nat) (p v : AV) (K : Hp → Prop) : Prop := match p with
  | .ptr l i off => match cellsO v with
    | some vs => match h.get l with
      | some B => match B.es[i]? with
        | some cs => bif Nat.beq vs.length sz && Nat.ble (off + sz) cs.length then forceL0 (cs.take off ++ vs ++ cs.drop (off + vs.length)) fun cs => forceH (h.set l ⟨B.sz, B.es.set i cs⟩) K else False
        | none => False
      | none => False
    | none => False
  | _ => False
theorem setMany_splice (vs : List AV) (off : Nat) (cs : List AV) (h : off + vs.length ≤ cs.length) : setMany off vs cs = cs.take off ++ vs ++ cs.drop (off + vs.length) := by
  refine List.ext_getElem? fun j => ?_
  have hm : min off cs.length = off := by omega
  rw [setMany_get _ _ _ _ h]
  by_cases h1 : j < off
  · rw [if_neg (by omega), List.append_assoc, List.getElem?_append_left (by rw [List.length_take]; omega), List.getElem?_take, if_pos h1]
  · by_cases h2 : j < off + vs.length
    · rw [if_pos ⟨by omega, h2⟩, List.append_assoc, List.getElem?_append_right (by rw [List.length_take]; omega), List.getElem?_append_left (by rw [List.length_take]; omega), List.length_take, hm]
    · rw [if_neg (by omega), List.getElem?_append_right (by rw [List.length_append, List.length_take]; omega), List.getElem?_drop, List.length_append, List.length_take, hm]
      congr 1
      omega
theorem stepS_sound {h : Hp} {sz : Nat} {p v : AV} {K : Hp → Prop} (hp : stepS h sz p v K) : ∃ h', storeAt h sz p v = some h' ∧ K h' := by
  unfold stepS at hp
  split at hp <;> try (exact hp.elim)
  rename_i l i off
  split at hp <;> try (exact hp.elim)
  rename_i vs hv
  split at hp <;> try (exact hp.elim)
  rename_i B hB
  split at hp <;> try (exact hp.elim)
  rename_i cs hcs
  cases hc : (Nat.beq vs.length sz && Nat.ble (off + sz) cs.length) with
  | false => rw [hc] at hp; exact hp.elim
  | true =>
    rw [hc] at hp
    simp only [cond_true] at hp
    rw [forceL0_eq, forceH_eq] at hp
    have hc' := hc
    rw [Bool.and_eq_true] at hc'
    have h1 := Nat.eq_of_beq_eq_true hc'.1
    have h2 := Nat.le_of_ble_eq_true hc'.2
    refine ⟨_, ?_, hp⟩
    simp only [storeAt, hv, hB, hcs, hc, cond_true]
    rw [setMany_splice vs off cs (by omega)]
def stepD (r : RO) (e : Env) (h : Hp) (fr : Nat) (K : AV → Hp → Prop) : Prop := match r.step e h fr with
  | some (v, h) => force2 v fun v => K v h
  | none => False
def stepN (r : RO) (e : Env) (h : Hp) (fr : Nat) (K : AV → Hp → Prop) : Prop := match r.step e h fr with
  | some (v, h) => force2 v fun v => forceH h fun h => K v h
  | none => False
def stepP (r : RO) (e : Env) (h : Hp) (fr : Nat) (K : AV → Hp → Prop) : Prop := match r with
  | .store sz a v => stepS h sz (a.ev e) (v.ev e) fun h => K (.tup []) h
  | .alloc z => stepN (.alloc z) e h fr K
  | .box sz x => stepN (.box sz x) e h fr K
  | .bslice z n ps => stepN (.bslice z n ps) e h fr K
  | .eqs neg ls x y => match x.ev e with
    | .agg xs => match y.ev e with
      | .agg ys => match eqB ls xs ys with
        | some b => (match neg with | true => K (.bool (!b)) h | false => K (.bool b) h)
        | none => False
      | _ => False
    | _ => False
  | .eqb neg x y => match x.ev e with
    | .bool a => match y.ev e with
      | .bool b => (match neg with | true => K (.bool (!(a == b))) h | false => K (.bool (a == b)) h)
      | _ => False
    | _ => False
  | .idxA sz x i => match i.ev e with
    | .int _ i => force2 (x.ev e) fun x => SomeP (idxAddr sz x i) fun v => force2 v fun v => K v h
    | _ => False
  | .idxS x i => match x.ev e with
    | .str s => match i.ev e with
      | .int _ i => SomeP (idxStr s i) fun v => force2 v fun v => K v h
      | _ => False
    | _ => False
  | .idxAarr len sz x i => match i.ev e with
    | .int _ i => match x.ev e with
      | .ptr l j o => SomeP (arrIx len i) fun i => K (.ptr l j (o + i * sz)) h
      | .rp cs o => SomeP (arrIx len i) fun i => forceL0 cs fun cs => K (.rp cs (o + i * sz)) h
      | _ => False
    | _ => False
  | .slc sz x lo hi => force2 (x.ev e) fun x => match lenA x with
    | some n => match optInt e lo 0 with
      | some lo => match optInt e hi n with
        | some hi => SomeP (sliceA sz x lo hi) fun v => force2 v fun v => K v h
        | none => False
      | none => False
    | none => False
  | .slcS x lo hi => match x.ev e with
    | .str s => match optInt e lo 0 with
      | some lo => match optInt e hi s.size with
        | some hi => SomeP (sliceS s lo hi) fun v => force2 v fun v => K v h
        | none => False
      | none => False
    | _ => False
  | .app sz b s x => force2 (s.ev e) fun s => force2 (x.ev e) fun x => SomeP (appendA h fr sz b s x) fun p => match p with | (v, h) => force2 v fun v => forceH h fun h => K v h
  | .mks z b n c => match n.ev e with
    | .int k n => match c.ev e with
      | .int k' c => k = .i64 ∧ k' = .i64 ∧ oneL z = true ∧ n = c ∧ SomeP (mksA z b n) fun m => forceH (h.new fr ⟨z.length, List.replicate m z⟩) fun h => K (.sl fr 0 m (some m) z.length) h
      | _ => False
    | _ => False
  | .blit z n ps => match RO.step e h fr (.blit z n ps) with
    | some (v, h) => (match v with
      | .rs es => forceLL es fun es => K (.rs es) h
      | v => K v h)
    | none => False
  | .bin op x y => match x.ev e with
    | .str a => match y.ev e with
      | .str b => (match op with
        | .add => SomeP (strBin .add a b) fun v => force2 v fun v => K v h
        | op => stepD (.bin op x y) e h fr K)
      | _ => False
    | _ => stepD (.bin op x y) e h fr K
  | r => stepD r e h fr K

theorem stepD_sound {r : RO} {e : Env} {h : Hp} {fr : Nat} {K : AV → Hp → Prop} (hp : stepD r e h fr K) : ∃ v h', r.step e h fr = some (v, h') ∧ K v h' := by
  simp only [stepD] at hp
  split at hp
  · rename_i v h' hr
    rw [force2_eq] at hp
    exact ⟨v, h', hr, hp⟩
  · exact hp.elim
theorem stepN_sound {r : RO} {e : Env} {h : Hp} {fr : Nat} {K : AV → Hp → Prop} (hp : stepN r e h fr K) : ∃ v h', r.step e h fr = some (v, h') ∧ K v h' := by
  simp only [stepN] at hp
  split at hp
  · rename_i v h' hr
    rw [force2_eq, forceH_eq] at hp
    exact ⟨v, h', hr, hp⟩
  · exact hp.elim
theorem withH_mk {h : Hp} {o : Option AV} {v : AV} (ho : o = some v) : withH h o = some (v, h) := by rw [ho]; rfl
theorem stepP_sound {r : RO} {e : Env} {h : Hp} {fr : Nat} {K : AV → Hp → Prop} (hp : stepP r e h fr K) : ∃ v h', r.step e h fr = some (v, h') ∧ K v h' := by
  cases r <;> (try (exact stepD_sound hp)) <;> simp only [stepP] at hp
  case alloc z => exact stepN_sound hp
  case box sz x => exact stepN_sound hp
  case bslice z n ps => exact stepN_sound hp
  case store sz a v =>
    obtain ⟨h', h1, h2⟩ := stepS_sound hp
    exact ⟨.tup [], h', by simp only [RO.step, h1], h2⟩
  case eqs neg ls x y =>
    simp only [RO.step]
    split at hp <;> try (exact hp.elim)
    rename_i xs hx
    split at hp <;> try (exact hp.elim)
    rename_i ys hy
    split at hp <;> try (exact hp.elim)
    rename_i b hb
    rw [hx, hy]
    simp only [eqB_eq ls hb]
    cases neg with
    | true => exact ⟨_, _, rfl, hp⟩
    | false => exact ⟨_, _, rfl, hp⟩
  case eqb neg x y =>
    simp only [RO.step]
    split at hp <;> try (exact hp.elim)
    rename_i xs hx
    split at hp <;> try (exact hp.elim)
    rename_i ys hy
    rw [hx, hy]
    cases neg with
    | true => exact ⟨_, _, rfl, hp⟩
    | false => exact ⟨_, _, rfl, hp⟩
  case idxA sz x i =>
    simp only [RO.step]
    split at hp <;> try (exact hp.elim)
    rename_i k i' hi
    rw [hi]
    rw [force2_eq] at hp
    obtain ⟨v, h1, h2⟩ := hp.ex
    rw [force2_eq] at h2
    exact ⟨_, _, withH_mk h1, h2⟩
  case idxS x i =>
    simp only [RO.step]
    split at hp <;> try (exact hp.elim)
    rename_i s hs
    split at hp <;> try (exact hp.elim)
    rename_i k i' hi
    rw [hs, hi]
    obtain ⟨v, h1, h2⟩ := hp.ex
    rw [force2_eq] at h2
    simp only [idxStr] at h1
    refine ⟨v, h, ?_, h2⟩
    simp only
    split at h1
    · rename_i hc
      rw [if_pos hc]
      split at h1
      · rename_i b hb; rw [hb]; cases h1; rfl
      · cases h1
    · cases h1
  case idxAarr len sz x i =>
    simp only [RO.step]
    split at hp <;> try (exact hp.elim)
    rename_i k i' hi
    split at hp <;> try (exact hp.elim)
    · rename_i l j o hx
      obtain ⟨v, h1, h2⟩ := hp.ex
      simp only [arrIx] at h1
      split at h1
      · rename_i hc
        cases h1
        rw [hx, hi]
        exact ⟨_, _, if_pos hc, h2⟩
      · cases h1
    · rename_i cs o hx
      obtain ⟨v, h1, h2⟩ := hp.ex
      rw [forceL0_eq] at h2
      simp only [arrIx] at h1
      split at h1
      · rename_i hc
        cases h1
        rw [hx, hi]
        exact ⟨_, _, if_pos hc, h2⟩
      · cases h1
  case slc sz x lo hi =>
    simp only [RO.step]
    rw [force2_eq] at hp
    split at hp <;> try (exact hp.elim)
    rename_i n hn
    split at hp <;> try (exact hp.elim)
    rename_i l hl
    split at hp <;> try (exact hp.elim)
    rename_i k hk
    obtain ⟨v, h1, h2⟩ := hp.ex
    rw [force2_eq] at h2
    rw [hn]
    simp only
    rw [hl, hk]
    exact ⟨_, _, withH_mk h1, h2⟩
  case slcS x lo hi =>
    simp only [RO.step]
    split at hp <;> try (exact hp.elim)
    rename_i s hs
    split at hp <;> try (exact hp.elim)
    rename_i l hl
    split at hp <;> try (exact hp.elim)
    rename_i k hk
    obtain ⟨v, h1, h2⟩ := hp.ex
    rw [force2_eq] at h2
    rw [hs]
    simp only
    rw [hl, hk]
    simp only [sliceS] at h1
    split at h1
    · rename_i hc; cases h1; exact ⟨_, _, if_pos hc, h2⟩
    · cases h1
  case app sz b s x =>
    simp only [RO.step]
    rw [force2_eq, force2_eq] at hp
    obtain ⟨⟨v, h'⟩, h1, h2⟩ := hp.ex
    simp only at h2
    rw [force2_eq, forceH_eq] at h2
    exact ⟨v, h', h1, h2⟩
  case mks z b n c =>
    simp only [RO.step]
    split at hp <;> try (exact hp.elim)
    rename_i k n' hn
    split at hp <;> try (exact hp.elim)
    rename_i k' c' hc
    obtain ⟨rfl, rfl, hz, rfl, hp⟩ := hp
    obtain ⟨m, h1, h2⟩ := hp.ex
    rw [forceH_eq] at h2
    rw [hn, hc]
    simp only
    simp only [mksA] at h1
    split at h1
    · rename_i hq
      cases h1
      rw [if_pos ⟨hq.1, trivial, hq.2⟩, hz]
      exact ⟨_, _, rfl, h2⟩
    · cases h1
  case blit z n ps =>
    split at hp <;> try (exact hp.elim)
    rename_i v h' hr
    refine ⟨v, h', hr, ?_⟩
    split at hp
    · rw [forceLL_eq] at hp; exact hp
    · exact hp
  case bin op x y =>
    split at hp
    · rename_i a hx
      split at hp <;> try (exact hp.elim)
      rename_i b hy
      split at hp
      · obtain ⟨v, h1, h2⟩ := hp.ex
        rw [force2_eq] at h2
        refine ⟨v, h, ?_, h2⟩
        simp only [RO.step, hx, hy, avBin]
        exact withH_mk h1
      · exact stepD_sound hp
    · exact stepD_sound hp

structure Br (b : Bool) (X Y : Prop) : Prop where
  t : b = true → X
  f : b = false → Y
theorem Br.T {X Y : Prop} (h : X) : Br true X Y := ⟨fun _ => h, fun h => by cases h⟩
theorem Br.F {X Y : Prop} (h : Y) : Br false X Y := ⟨fun h => (nomatch h), fun _ => h⟩

section
variable (R : FuncId → Option RFn)
structure CallP (f : FuncId) (args : List AV) (K : AV → Prop) : Prop where
  ex : ∃ r, Rt R f args r ∧ K r
structure LoopP (ws live : List Nat) (b : RC) (e : Env) (h : Hp) (Q : Ex → Env → Hp → Prop) : Prop where
  ex : WC R (.loop ws live b) ⟨e, h⟩ fun x s => Q x s.env s.h
structure RawP (b : RC) (e : Env) (h : Hp) (Q : Ex → Env → Hp → Prop) : Prop where
  ex : WC R (.rawloop b) ⟨e, h⟩ fun x s => Q x s.env s.h
theorem CallP.mk' {R : FuncId → Option RFn} {f : FuncId} {args : List AV} {K : AV → Prop} {r : AV} (h : Rt R f args r) (hk : K r) : CallP R f args K := ⟨r, h, hk⟩

def wpD (e : Env) (dst : Option Nat) (v : AV) (h : Hp) (K : Env → Hp → Prop) : Prop := match dst with
  | some t => K (upd e t v) h
  | none => K e h
def wpX (fr : Nat) (o : RX) (dst : Option Nat) (e : Env) (h : Hp) (K : Env → Hp → Prop) : Prop := match o with
  | .op r => stepP r e h fr fun v h => wpD e dst v h K
  | .call f xs => match f.ev e with
    | .fn fid a c => forceL1 (a ++ opds e xs ++ c) fun args =>
      bif refFreeL args then CallP R fid args fun r => force2 r fun r => wpD e dst r h K
      else match frzL h args with
        | some ys => CallP R fid ys fun r => force2 r fun r => flat r = true ∧ wpD e dst r h K
        | none => False
    | _ => False
def wpR (fr : Nat) (o : ROp) (e : Env) (h : Hp) (K : Env → Hp → Prop) : Prop := match o with
  | ⟨g, dst, op⟩ => match g with
    | none => wpX R fr op dst e h K
    | some p => match p with
      | (t, want) => match e t with
        | .bool b => (match want with
          | true => Br b (wpX R fr op dst (upd e t (.bool true)) h K) (wpD (upd e t (.bool false)) dst (.tup []) h K)
          | false => Br b (wpD (upd e t (.bool true)) dst (.tup []) h K) (wpX R fr op dst (upd e t (.bool false)) h K))
        | .top => False
        | _ => wpD e dst (.tup []) h K
def wpO : Nat → List ROp → Env → Hp → (Env → Hp → Prop) → Prop
  | fr, [], e, h, K => match h with
    | ⟨bl, _⟩ => K e ⟨bl, fr⟩
  | fr, o :: os, e, h, K => wpR R fr o e h fun e h => wpO (fr + 1) os e h K
def wpC : RC → Env → Hp → (Ex → Env → Hp → Prop) → Prop
  | .skip, e, h, Q => Q .nrm e h
  | .ops os, e, h, Q => wpO R h.next os e h fun e h => Q .nrm e h
  | .dops os ps, e, h, Q => pairsOK h.next e os ps = true ∧ wpO R h.next os e h fun e h => Q .nrm e h
  | .seq a b, e, h, Q => wpC a e h fun x e h => match x with
    | .nrm => wpC b e h Q
    | .exit id => Q (.exit id) e h
    | .ret => Q .ret e h
  | .cond c t f, e, h, Q => match c with
    | .tmp k => match e k with
      | .bool b => Br b (wpC t (upd e k (.bool true)) h Q) (wpC f (upd e k (.bool false)) h Q)
      | _ => False
    | .con v => match v with
      | .bool b => Br b (wpC t e h Q) (wpC f e h Q)
      | _ => False
    | .func _ => False
  | .block id b, e, h, Q => wpC b e h fun x e h => match x with
    | .nrm => Q .nrm e h
    | .exit i => bif Nat.beq i id then Q .nrm e h else Q (.exit i) e h
    | .ret => Q .ret e h
  | .loop ws live b, e, h, Q => LoopP R ws live b e h Q
  | .rawloop b, e, h, Q => RawP R b e h Q
  | .exit id, e, h, Q => Q (.exit id) e h
  | .ret, e, h, Q => Q .ret e h
end
variable {R : FuncId → Option RFn}

theorem upd_self {e : Env} {t : Nat} {v : AV} (h : e t = v) : upd e t v = e := by
  funext k
  simp only [upd]
  cases hk : Nat.beq k t with
  | true => rw [Nat.eq_of_beq_eq_true hk, h]; rfl
  | false => rfl
theorem wpD_eq (e : Env) (dst : Option Nat) (v : AV) (h : Hp) (K : Env → Hp → Prop) : wpD e dst v h K = K (updO e dst v) h := by cases dst <;> rfl

theorem wpX_sound {fr : Nat} {dst : Option Nat} {o : RX} {os : List ROp} {e : Env} {h : Hp} {K : Env → Hp → Prop} {Q : St → Prop} (hx : wpX R fr o dst e h K) (hk : ∀ e h, K e h → WO R (fr + 1) os ⟨e, h⟩ Q) : WO R fr (⟨none, dst, o⟩ :: os) ⟨e, h⟩ Q := by
  cases o with
  | op r =>
    simp only [wpX] at hx
    obtain ⟨v, h', hr, hx⟩ := stepP_sound hx
    rw [wpD_eq] at hx
    exact WO.op rfl rfl hr (hk _ _ hx)
  | call f xs =>
    simp only [wpX] at hx
    split at hx
    · rename_i fid a c hf
      rw [forceL1_eq] at hx
      cases hr : refFreeL (a ++ opds e xs ++ c) with
      | true =>
        rw [hr] at hx
        obtain ⟨r, h1, h2⟩ := hx.ex
        rw [force2_eq, wpD_eq] at h2
        exact WO.call rfl rfl hf hr h1 (hk _ _ h2)
      | false =>
        rw [hr] at hx
        simp only [cond_false] at hx
        split at hx
        · rename_i ys hz
          obtain ⟨r, h1, h2⟩ := hx.ex
          rw [force2_eq] at h2
          obtain ⟨h2, h3⟩ := h2
          rw [wpD_eq] at h3
          exact WO.callB rfl rfl hf hz hr h1 h2 (hk _ _ h3)
        · exact hx.elim
    · exact hx.elim
theorem wpO_sound : ∀ (os : List ROp) (fr : Nat) (e : Env) (h : Hp) (Q : Env → Hp → Prop), wpO R fr os e h Q → WO R fr os ⟨e, h⟩ fun s => Q s.env s.h := by
  intro os
  induction os with
  | nil => intro fr e h Q hx; exact WO.nil hx
  | cons o os ih =>
    intro fr e h Q hx
    obtain ⟨g, dst, op⟩ := o
    simp only [wpO, wpR] at hx
    cases g with
    | none => exact wpX_sound hx fun e h hs => ih _ _ _ _ hs
    | some p =>
      obtain ⟨t, want⟩ := p
      simp only at hx
      split at hx
      · rename_i b hb
        cases want with
        | true =>
          simp only at hx
          refine WO.guard rfl hb (fun he => ?_) (fun he => ?_)
          · have := hx.t he
            rw [upd_self (show e t = .bool true from by rw [hb, he])] at this
            exact wpX_sound this fun e h hs => ih _ _ _ _ hs
          · have := hx.f he
            rw [upd_self (show e t = .bool false from by rw [hb, he]; rfl), wpD_eq] at this
            exact ih _ _ _ _ this
        | false =>
          simp only at hx
          refine WO.guard rfl hb (fun he => ?_) (fun he => ?_)
          · have := hx.f he
            rw [upd_self (show e t = .bool false from by rw [hb, he])] at this
            exact wpX_sound this fun e h hs => ih _ _ _ _ hs
          · have := hx.t he
            rw [upd_self (show e t = .bool true from by rw [hb, he]; rfl), wpD_eq] at this
            exact ih _ _ _ _ this
      · exact hx.elim
      · rename_i h1 h2
        rw [wpD_eq] at hx
        refine WO.skipped ?_ (ih _ _ _ _ hx)
        simp only [guardA]
theorem wpC_sound : ∀ (c : RC) (e : Env) (h : Hp) (Q : Ex → Env → Hp → Prop), wpC R c e h Q → WC R c ⟨e, h⟩ fun x s => Q x s.env s.h := by
  intro c
  induction c with
  | skip => intro e h Q hx; exact .skip hx
  | ops os => intro e h Q hx; exact .ops (wpO_sound _ _ _ _ _ hx)
  | dops os ps => intro e h Q hx; exact .dops hx.1 (wpO_sound _ _ _ _ _ hx.2)
  | seq a b iha ihb =>
    intro e h Q hx
    simp only [wpC] at hx
    refine .seq ((iha _ _ _ hx).mono fun x s' he => ?_)
    cases x with
    | nrm => exact ihb _ _ _ he
    | exit id => exact he
    | ret => exact he
  | cond c t f iht ihe =>
    intro e h Q hx
    simp only [wpC] at hx
    cases c with
    | tmp k =>
      simp only at hx
      split at hx
      · rename_i b hb
        refine .cond b hb (fun he => ?_) (fun he => ?_)
        · have := hx.t he
          rw [upd_self (show e k = .bool true from by rw [hb, he])] at this
          exact iht _ _ _ this
        · have := hx.f he
          rw [upd_self (show e k = .bool false from by rw [hb, he])] at this
          exact ihe _ _ _ this
      · exact hx.elim
    | con v =>
      simp only at hx
      split at hx
      · rename_i b
        exact .cond b rfl (fun he => iht _ _ _ (hx.t he)) (fun he => ihe _ _ _ (hx.f he))
      · exact hx.elim
    | func f => exact hx.elim
  | block id b ih =>
    intro e h Q hx
    simp only [wpC] at hx
    refine .block ((ih _ _ _ hx).mono fun x s' he => ?_)
    cases x with
    | nrm => exact he
    | exit i => exact he
    | ret => exact he
  | loop ws live b ih => intro e h Q hx; exact hx.ex
  | rawloop b ih => intro e h Q hx; exact hx.ex
  | exit id => intro e h Q hx; exact .exit hx
  | ret => intro e h Q hx; exact .ret hx

/-- What a function's end must say. -/
def EndP (res : List RRes) (r : AV) (x : Ex) (e : Env) (h : Hp) : Prop := match x with
  | .nrm => (match resultA ⟨e, h⟩ res with | some v => frz h 6 v | none => none) = some r
  | .ret => (match resultA ⟨e, h⟩ res with | some v => frz h 6 v | none => none) = some r
  | .exit _ => False
theorem eq_bool {a b : Bool} (h : a = b) : some (AV.bool a) = some (AV.bool b) := by rw [h]
theorem eq_int {k : IntKind} {a b : Int} (h : a = b) : some (AV.int k a) = some (AV.int k b) := by rw [h]
theorem eq_some {a b : AV} (h : a = b) : some a = some b := by rw [h]
theorem Rt.wp {f : FuncId} {rf : RFn} {args : List AV} {r : AV} (hf : R f = some rf) (hl : args.length = rf.np) (h : wpC R rf.body (initEnv args) ⟨[], 0⟩ (EndP rf.res r)) : Rt R f args r := by
  refine Rt.mk hf hl ((wpC_sound _ _ _ _ h).mono fun x s' he => ?_)
  cases x with
  | nrm =>
    simp only [EndP] at he
    split at he
    · rename_i v hv; exact ⟨.inl rfl, v, hv, he⟩
    · cases he
  | ret =>
    simp only [EndP] at he
    split at he
    · rename_i v hv; exact ⟨.inr rfl, v, hv, he⟩
    · cases he
  | exit _ => exact he.elim
/-- One round of a loop that forgets nothing. -/
theorem RawP.by {b : RC} {e : Env} {h : Hp} {Q : Ex → Env → Hp → Prop} (hb : wpC R b e h fun z e' h' => match z with
      | .nrm => RawP R b e' h' Q
      | .exit i => Q (.exit i) e' h'
      | .ret => Q .ret e' h') : RawP R b e h Q := by
  refine ⟨WC.raw ((wpC_sound _ _ _ _ hb).mono fun z t' he => ?_)⟩
  cases z with
  | nrm => exact he.ex
  | exit i => exact he
  | ret => exact he
/-- A loop whose heads hold known values in the carried slots. -/
theorem LoopP.by {ws live : List Nat} {b : RC} {e : Env} {h : Hp} {Q : Ex → Env → Hp → Prop} {α : Type} (m : α → Nat) (P : α → Prop) (vals : α → List AV) (blks : α → List (Nat × Blk)) (x0 : α) (hP : P x0)
    (h0 : canon live h.next ⟨e, h⟩ = (vals x0, blks x0))
    (hstep : ∀ x, P x → wpC R b (headEnv ws live e (vals x)) ⟨blks x, h.next + live.length⟩ fun z e' h' => match z with
      | .nrm => ∃ y, m y < m x ∧ P y ∧ canon live h.next ⟨e', h'⟩ = (vals y, blks y)
      | .exit i => Q (.exit i) e' h'
      | .ret => Q .ret e' h') : LoopP R ws live b e h Q := by
  refine ⟨WC.loop m (fun x t => P x ∧ t = headSt ws live e h.next (vals x) (blks x)) x0 ⟨hP, by rw [h0]⟩ fun x t hI => ?_⟩
  obtain ⟨h1, rfl⟩ := hI
  refine (wpC_sound _ _ _ _ (hstep x h1)).mono fun z t' he => ?_
  cases z with
  | nrm => obtain ⟨y, h2, h3, h4⟩ := he; exact ⟨y, h2, h3, by rw [h4]⟩
  | exit i => exact he
  | ret => exact he
end Go.Proofs.YtnibcojenlijgaaGreatDoor.Ev
