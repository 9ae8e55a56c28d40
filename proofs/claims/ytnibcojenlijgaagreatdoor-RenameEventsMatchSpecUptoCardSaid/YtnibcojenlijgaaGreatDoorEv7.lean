/- Each operation's law, second part. No condition. -/
import Derived.Test.YtnibcojenlijgaaGreatDoorEv6
set_option linter.unusedVariables false
set_option linter.unusedSimpArgs false
namespace Go.Proofs.YtnibcojenlijgaaGreatDoor.Ev
open Go Go.RowKit

section
variable {C : Cfg} {K : Kn} {σ : Sg} {e : Env} {h : Hp} {w : World} {a : Act}

theorem r1_some {x : Operand} {k : Opd → RO} {r : RO} (h : r1 C x k = some r) : ∃ y, rOpd C x = some y ∧ r = k y := by
  unfold r1 at h
  cases hx : rOpd C x with
  | none => simp [hx] at h
  | some y => simp [hx] at h; exact ⟨y, rfl, h.symm⟩
theorem r2_some {x y : Operand} {k : Opd → Opd → RO} {r : RO} (h : r2 C x y k = some r) : ∃ x' y', rOpd C x = some x' ∧ rOpd C y = some y' ∧ r = k x' y' := by
  unfold r2 at h
  cases hx : rOpd C x with
  | none => simp [hx] at h
  | some x' => cases hy : rOpd C y with
    | none => simp [hx, hy] at h
    | some y' => simp [hx, hy] at h; exact ⟨x', y', rfl, rfl, h.symm⟩

abbrev DoneAt (C : Cfg) (K : Kn) (σ : Sg) (h : Hp) (w : World) (a : Act) (fr : Nat) (v : AV) (h' : Hp) (o : Oper) : Prop := Done K σ h w fr v h' ((execOp a.eval o).run C.P w)

theorem row_one {cs : List AV} {c : Array Value} (hr : RelL K σ cs c.toList) (ho : oneL cs = true) : Row K σ cs.length [cs] 0 c where
  fit := by have := hr.1; simp at this ⊢; omega
  len := by intro e he; simp at he; exact he ▸ rfl
  at_ i j e a h1 h2 := by
    cases i with
    | succ i => simp at h1
    | zero =>
      simp at h1; subst h1
      have hj : j < cs.length := (List.getElem?_eq_some_iff.1 h2).1
      have hj' : j < c.size := by have := hr.1; simp at this; omega
      have hv : c.toList[j]? = some c[j] := by simp [hj']
      exact ⟨c[j], by simp [hj'], hr.ones ho _ (List.mem_of_getElem? hv), hr.2 j a _ h2 hv⟩
theorem ptr_new {fr : Nat} {sz tot : Nat} {n : Nat} : Rel K (sput σ fr ⟨n, 0, sz, tot⟩) (.ptr fr 0 0) (.pointer (some ⟨n, 0, none⟩)) := by
  have := Rel.ptr (K := K) (σ := sput σ fr ⟨n, 0, sz, tot⟩) (l := fr) (i := 0) (off := 0) sput_self
  simpa using this

/-- A value in a new variable. -/
theorem Done.newVar (hS : Sim K σ h w) {fr : Nat} (hf : σ fr = none) {cs : List AV} {c : Array Value} (t : TypeId) (hr : RelL K σ cs c.toList) (ho : oneL cs = true) {r : Result Next}
    (hrun : r = .ok (.value (.pointer (some ⟨w.heap.size, 0, none⟩))) (w.alloc (.cells c t))) : Done K σ h w fr (.ptr fr 0 0) (h.new fr ⟨cs.length, [cs]⟩) r := by
  obtain ⟨h1, h2⟩ := hS.new hf t (row_one hr ho)
  exact ⟨_, _, K, _, .inl hrun, ptr_new, h1, h2, fun l hl => sput_other hl⟩

theorem zeroT_some {P : Program} {t : TypeId} {z : List AV} (hz : zeroT P t = some z) : ∃ i v, P.info? t = some i ∧ i.zero = some v ∧ RelL K σ z v.cells.toList ∧ oneL z = true := by
  unfold zeroT at hz
  cases hi : P.info? t with
  | none => simp [hi] at hz
  | some i =>
    simp only [hi, Option.bind_some] at hz
    cases hv : i.zero with
    | none => simp [hv] at hz
    | some v =>
      simp only [hv] at hz
      obtain ⟨h1, h2⟩ := (avOf_rel (K := K) (σ := σ) 4 v).cellsO hz
      exact ⟨i, v, rfl, hv, h1, h2⟩

theorem st_alloc (hS : Sim K σ h w) {o : Oper} {t : TypeId} (ho : o.op = .alloc t) {z : List AV} (hz : zeroT C.P t = some z) {fr : Nat} (hf : σ fr = none) {v : AV} {h' : Hp} (hs : (RO.alloc z).step e h fr = some (v, h')) : DoneAt C K σ h w a fr v h' o := by
  obtain ⟨i, u, h1, h2, h3, h4⟩ := zeroT_some (K := K) (σ := σ) hz
  simp only [RO.step, h4, cond_true, Option.some.injEq, Prod.mk.injEq] at hs
  obtain ⟨rfl, rfl⟩ := hs
  exact Done.newVar hS hf t h3 h4 (by simp [execOp, ho, Instr.alloc, zeroValue, typeInfo, h1, h2, newVar, newRow])

theorem st_box (hS : Sim K σ h w) {o : Oper} {t : TypeId} {x : Operand} (ho : o.op = .box t x) {y : Opd} {s : Nat} (hx : Rel K σ (y.ev e) (a.eval x)) {fr : Nat} (hf : σ fr = none) {v : AV} {h' : Hp} (hs : (RO.box s y).step e h fr = some (v, h')) : DoneAt C K σ h w a fr v h' o := by
  simp only [RO.step] at hs
  cases hc : cellsO (y.ev e) with
  | none => simp [hc] at hs
  | some cs =>
    simp only [hc] at hs
    cases hb : Nat.beq cs.length s with
    | false => simp [hb] at hs
    | true =>
      simp only [hb, cond_true, Option.some.injEq, Prod.mk.injEq] at hs
      obtain ⟨rfl, rfl⟩ := hs
      obtain rfl := Nat.eq_of_beq_eq_true hb
      obtain ⟨h3, h4⟩ := hx.cellsO hc
      exact Done.newVar hS hf t h3 h4 (by simp [execOp, ho, Instr.box, newVar, newRow])

theorem st_load (hS : Sim K σ h w) {o : Oper} {t : TypeId} {x : Operand} (ho : o.op = .load t x) {y : Opd} {g : Bool} {s : Nat} (hA : isAggT C.P t = some g) (hsz : sizeT C.P t = some s) (hx : Rel K σ (y.ev e) (a.eval x)) {fr : Nat} {v : AV} {h' : Hp}
    (hs : (RO.load g s y).step e h fr = some (v, h')) : DoneAt C K σ h w a fr v h' o := by
  obtain ⟨h1, rfl⟩ := withH_some hs
  obtain ⟨V, ad, h2, h3, h4⟩ := loadAt_sound hS hA hsz hx h1
  exact Done.pure hS (by simp [execOp, ho, Instr.loadAt, Instr.sureAddr, h2, h3]) h4

theorem st_store (hS : Sim K σ h w) {o : Oper} {t : TypeId} {x z : Operand} (ho : o.op = .store t x z) {y u : Opd} {s : Nat} (hsz : sizeT C.P t = some s) (hx : Rel K σ (y.ev e) (a.eval x)) (hz : Rel K σ (u.ev e) (a.eval z)) {fr : Nat} {v : AV} {h' : Hp}
    (hs : (RO.store s y u).step e h fr = some (v, h')) : DoneAt C K σ h w a fr v h' o := by
  simp only [RO.step] at hs
  cases hst : storeAt h s (y.ev e) (u.ev e) with
  | none => simp [hst] at hs
  | some h2 =>
    simp only [hst, Option.some.injEq, Prod.mk.injEq] at hs
    obtain ⟨rfl, rfl⟩ := hs
    obtain ⟨w', ad, h3, h4, h5, h6⟩ := storeAt_sound (P := C.P) hS hsz hx hz hst
    refine ⟨undef, w', K, σ, .inr ⟨?_, rfl⟩, Rel.tupL.2 .nil, h5, h6, fun _ _ => rfl⟩
    simp [execOp, ho, Instr.storeAt, Instr.sureAddr, h3, h4]

theorem guard_bin {op : BinOp} {p q v : AV} {X Y : Value} (hx : Rel K σ p X) (hy : Rel K σ q Y) (h1 : avBin op p q = some v) (t : TypeId) (x z : Operand) : (eqGuard op t x z X Y).run C.P w = .ok () w := by
  cases hx <;> cases hy <;> first
    | (simp [avBin] at h1; done)
    | (unfold eqGuard; split <;> rfl)

theorem st_bin (hS : Sim K σ h w) {o : Oper} {op : BinOp} {t t' : TypeId} {x z : Operand} (ho : o.op = .binOp op t x z t') {y u : Opd} (hx : Rel K σ (y.ev e) (a.eval x)) (hz : Rel K σ (u.ev e) (a.eval z)) {fr : Nat} {v : AV} {h' : Hp}
    (hs : (RO.bin op y u).step e h fr = some (v, h')) : DoneAt C K σ h w a fr v h' o := by
  obtain ⟨h1, rfl⟩ := withH_some hs
  obtain ⟨V, h2, h3⟩ := avBin_sound (C := C) hx hz h1 t w
  exact Done.pure hS (by simp [execOp, ho, guard_bin (C := C) (w := w) hx hz h1 t x z, h2]) h3

theorem st_eqb (hS : Sim K σ h w) {o : Oper} {op : BinOp} {t t' : TypeId} {x z : Operand} (ho : o.op = .binOp op t x z t') (hm : mayCmp op = true) (hu : C.P.underlying t = some .bool) {y u : Opd} (hx : Rel K σ (y.ev e) (a.eval x)) (hz : Rel K σ (u.ev e) (a.eval z)) {fr : Nat} {v : AV} {h' : Hp}
    (hs : (RO.eqb (isNeq op) y u).step e h fr = some (v, h')) : DoneAt C K σ h w a fr v h' o := by
  simp only [RO.step] at hs
  generalize y.ev e = p at *
  generalize u.ev e = q at *
  generalize hX : a.eval x = X at *
  generalize hZ : a.eval z = Z at *
  cases hx <;> cases hz <;> simp only [Option.some.injEq, Prod.mk.injEq, reduceCtorEq] at hs
  obtain ⟨rfl, rfl⟩ := hs
  have he := fun b b' => run_equal_bool (P := C.P) w t b b' hu
  cases op <;> simp only [mayCmp, reduceCtorEq] at hm <;> exact Done.pure hS (by simp [execOp, ho, hX, hZ, eqGuard, binOp, he]; rfl) (by simpa [isNeq, notIf] using Rel.bool)

theorem st_eqs (hS : Sim K σ h w) {o : Oper} {op : BinOp} {t t' : TypeId} {x z : Operand} (ho : o.op = .binOp op t x z t') (hm : mayCmp op = true) {fs : Array Field} (hu : C.P.underlying t = some (.struct fs)) (hgt : C.P.eqGuardType C.P.depth t = false)
    {ls : List (Nat × Nat)} (hl : leavesT C.P 4 0 t = some ls) {y u : Opd} (hx : Rel K σ (y.ev e) (a.eval x)) (hz : Rel K σ (u.ev e) (a.eval z)) {fr : Nat} {v : AV} {h' : Hp}
    (hs : (RO.eqs (isNeq op) ls y u).step e h fr = some (v, h')) : DoneAt C K σ h w a fr v h' o := by
  simp only [RO.step] at hs
  generalize y.ev e = p at *
  generalize u.ev e = q at *
  generalize hX : a.eval x = X at *
  generalize hZ : a.eval z = Z at *
  cases hx <;> cases hz <;> try (simp only [reduceCtorEq] at hs; done)
  case agg.agg as xs hl1 hr1 bs ys hl2 hr2 =>
    simp only at hs
    cases he : eqLeaves ls as bs with
    | none => simp [he] at hs
    | some b =>
      simp only [he, Option.some.injEq, Prod.mk.injEq] at hs
      obtain ⟨rfl, rfl⟩ := hs
      have hag : isAggT C.P t = some true := by simp [isAggT, hu]
      have hrun := leaves_sound (C := C) (Rel.aggL.1 (.agg hl1 hr1)) (Rel.aggL.1 (.agg hl2 hr2)) w 4 0 t ls b 9996 (.agg xs) (.agg ys) hl he (.inr ⟨hag, xs, rfl, fun j _ => by rw [Nat.zero_add]⟩) (.inr ⟨hag, ys, rfl, fun j _ => by rw [Nat.zero_add]⟩)
      have hg := fun op => run_eqGuard_agg (P := C.P) w op t x z xs ys hgt
      cases op <;> simp only [mayCmp, reduceCtorEq] at hm
      · exact Done.pure hS (by simp only [execOp, ho, hX, hZ]; simp [hg, run_eql_struct, hrun]; rfl) (by simpa [isNeq, notIf] using Rel.bool)
      · have hq : (binOp .neq t (.agg xs) (.agg ys)).run C.P w = .ok (.bool (!b)) w := by
          simp only [binOp, Op.equal, Op.maxDepth]
          rw [Sem.run_bind, hrun]; rfl
        exact Done.pure hS (by simp only [execOp, ho, hX, hZ]; simp [hg, hq]; rfl) (by simpa [isNeq, notIf] using Rel.bool)

theorem st_un (hS : Sim K σ h w) {o : Oper} {op : UnOp} {t : TypeId} {x : Operand} (ho : o.op = .unOp op t x) {y : Opd} (hx : Rel K σ (y.ev e) (a.eval x)) {fr : Nat} {v : AV} {h' : Hp}
    (hs : (RO.un op y).step e h fr = some (v, h')) : DoneAt C K σ h w a fr v h' o := by
  obtain ⟨h1, rfl⟩ := withH_some hs
  obtain ⟨V, h2, h3⟩ := avUn_sound (C := C) hx h1 w
  exact Done.pure hS (by simp [execOp, ho, h2]) h3

theorem st_conv (hS : Sim K σ h w) {o : Oper} {s d : TypeId} {x : Operand} (ho : o.op = .convert s d x) {k0 k : IntKind} (hs0 : C.P.underlying s = some (.int k0)) (hd : C.P.underlying d = some (.int k)) {y : Opd} (hx : Rel K σ (y.ev e) (a.eval x)) {fr : Nat} {v : AV} {h' : Hp}
    (hs : (RO.conv k y).step e h fr = some (v, h')) : DoneAt C K σ h w a fr v h' o := by
  simp only [RO.step] at hs
  generalize y.ev e = p at *
  generalize hX : a.eval x = X at *
  cases hx <;> simp only [Option.some.injEq, Prod.mk.injEq, reduceCtorEq] at hs
  obtain ⟨rfl, rfl⟩ := hs
  exact Done.pure hS (by simp [execOp, ho, hX, convert, run_underlying hs0, run_underlying hd, Conv.intToInt]) .int

theorem rOpds_some {xs : List Operand} {ys : List Opd} (h : rOpds C xs = some ys) : ys.length = xs.length ∧ ∀ (i : Nat) x y, xs[i]? = some x → ys[i]? = some y → rOpd C x = some y := by
  unfold rOpds at h
  induction xs generalizing ys with
  | nil => simp [mapO] at h; subst h; simp
  | cons x xs ih =>
    simp only [mapO] at h
    cases hx : rOpd C x with
    | none => simp [hx] at h
    | some y =>
      cases hm : mapO (rOpd C) xs with
      | none => simp [hx, hm] at h
      | some ys' =>
        simp [hx, hm] at h; subst h
        obtain ⟨h1, h2⟩ := ih hm
        refine ⟨by simp [h1], fun i x' y' g1 g2 => ?_⟩
        cases i with
        | zero => simp at g1 g2; exact g1 ▸ g2 ▸ hx
        | succ i => exact h2 i x' y' (by simpa using g1) (by simpa using g2)
theorem opds_get (e : Env) (xs : List Opd) : ∀ (i : Nat), (opds e xs)[i]? = (xs[i]?).map (·.ev e) := by
  induction xs with
  | nil => intro i; simp [opds]
  | cons x xs ih => intro i; cases i <;> simp [opds, ih]
theorem opds_length (e : Env) (xs : List Opd) : (opds e xs).length = xs.length := by
  induction xs with
  | nil => rfl
  | cons x xs ih => simp [opds, ih]
theorem opds_rel (hE : EnvR K σ e a.tmps) (hG : GlobOK C K) {xs : Array Operand} {ys : List Opd} (h : rOpds C xs.toList = some ys) : RelL K σ (opds e ys) (xs.map a.eval).toList := by
  obtain ⟨h1, h2⟩ := rOpds_some h
  refine ⟨by simp [opds_length, h1], fun i p v g1 g2 => ?_⟩
  rw [opds_get] at g1
  simp only [Option.map_eq_some_iff] at g1
  obtain ⟨y, g1, rfl⟩ := g1
  simp only [Array.toList_map, List.getElem?_map, Option.map_eq_some_iff] at g2
  obtain ⟨x, g2, rfl⟩ := g2
  exact rOpd_rel hE hG (h2 i x y g2 g1)

theorem st_mkfn (hS : Sim K σ h w) (hE : EnvR K σ e a.tmps) (hG : GlobOK C K) {o : Oper} {f : FuncId} {xs zs : Array Operand} (ho : o.op = .makeFunc (.func f) xs zs) {ys us : List Opd} (h1 : rOpds C xs.toList = some ys) (h2 : rOpds C zs.toList = some us) {fr : Nat} {v : AV} {h' : Hp}
    (hs : (RO.mkfn f ys us).step e h fr = some (v, h')) : DoneAt C K σ h w a fr v h' o := by
  simp only [RO.step, Option.some.injEq, Prod.mk.injEq] at hs
  obtain ⟨rfl, rfl⟩ := hs
  have r1 := opds_rel hE hG h1
  have r2 := opds_rel hE hG h2
  refine Done.pure hS (V := .func (.func f) (xs.map a.eval) (zs.map a.eval)) (by simp [execOp, ho, Instr.makeFunc]) (.fn (by simpa using r1.1) (by simpa using r2.1) (fun i x v g1 g2 => r1.2 i x v g1 (by simpa using g2)) fun i x v g1 g2 => r2.2 i x v g1 (by simpa using g2))

theorem st_fieldA (hS : Sim K σ h w) {o : Oper} {t : TypeId} {x : Operand} {f : Nat} (ho : o.op = .fieldAddr t x f) {fs : Array Field} (hu : C.P.underlying t = some (.struct fs)) {g : Field} (hg : fs[f]? = some g) {s : Nat} (hsz : sizeT C.P g.type = some s) (hs0 : s ≠ 0)
    {y : Opd} (hx : Rel K σ (y.ev e) (a.eval x)) {fr : Nat} {v : AV} {h' : Hp} (hs : (RO.fieldA g.offset y).step e h fr = some (v, h')) : DoneAt C K σ h w a fr v h' o := by
  simp only [RO.step] at hs
  generalize y.ev e = p at *
  generalize hX : a.eval x = X at *
  cases hx <;> simp only [Option.some.injEq, Prod.mk.injEq, reduceCtorEq] at hs
  case ptr l i off x hσ =>
    obtain ⟨rfl, rfl⟩ := hs
    have := Rel.ptr (K := K) (l := l) (i := i) (off := off + g.offset) hσ
    exact Done.pure hS (by simp [execOp, ho, hX, Instr.fieldAt, run_underlying hu, hg, Instr.sureAddr, fieldPlace, run_sizeOf' hsz, hs0, add_at]; rfl) (by simpa [Nat.add_assoc] using this)
  case rp cs off b o1 f1 hK hr =>
    obtain ⟨rfl, rfl⟩ := hs
    have := Rel.rp (K := K) (σ := σ) (off := off + g.offset) f1 hK hr
    exact Done.pure hS (by simp [execOp, ho, hX, Instr.fieldAt, run_underlying hu, hg, Instr.sureAddr, fieldPlace, run_sizeOf' hsz, hs0, add_at]; rfl) (by simpa [Nat.add_assoc] using this)

theorem part_sound {t : TypeId} {g : Bool} {s off : Nat} {cs : List AV} {vs : Array Value} (hA : isAggT C.P t = some g) (hsz : sizeT C.P t = some s) (hr : RelL K σ cs vs.toList) {v : AV} {h h' : Hp}
    (hs : (bif g then (bif Nat.ble (off + s) cs.length then some (AV.agg ((cs.drop off).take s), h) else none) else withH h cs[off]?) = some (v, h')) : h' = h ∧ ∃ V, (part t vs off).run C.P w = .ok V w ∧ Rel K σ v V := by
  cases g with
  | true =>
    simp only [cond_true] at hs
    cases hb : Nat.ble (off + s) cs.length with
    | false => simp [hb] at hs
    | true =>
      simp only [hb, cond_true, Option.some.injEq, Prod.mk.injEq] at hs
      obtain ⟨rfl, rfl⟩ := hs
      refine ⟨rfl, .agg (vs.extract off (off + s)), by simp [part, run_isAgg' hA, run_sizeOf' hsz], Rel.aggL.2 ?_⟩
      have := (hr.drop off).take s
      simpa [Array.toList_extract, List.extract_eq_take_drop] using this
  | false =>
    simp only [cond_false] at hs
    obtain ⟨h1, rfl⟩ := withH_some hs
    have hlt : off < cs.length := (List.getElem?_eq_some_iff.1 h1).1
    have hlt' : off < vs.size := by have := hr.1; simp at this; omega
    refine ⟨rfl, vs[off], by simp [part, run_isAgg' hA, hlt'], hr.2 off v _ h1 (by simp [hlt'])⟩

theorem st_field (hS : Sim K σ h w) {o : Oper} {t : TypeId} {x : Operand} {f : Nat} (ho : o.op = .field t x f) {fs : Array Field} (hu : C.P.underlying t = some (.struct fs)) {g : Field} (hg : fs[f]? = some g) {b : Bool} {s : Nat} (hA : isAggT C.P g.type = some b) (hsz : sizeT C.P g.type = some s)
    {y : Opd} (hx : Rel K σ (y.ev e) (a.eval x)) {fr : Nat} {v : AV} {h' : Hp} (hs : (RO.field b g.offset s y).step e h fr = some (v, h')) : DoneAt C K σ h w a fr v h' o := by
  simp only [RO.step] at hs
  generalize y.ev e = p at *
  generalize hX : a.eval x = X at *
  cases hx <;> simp only [reduceCtorEq] at hs
  case agg cs vs hl hr =>
    obtain ⟨rfl, V, h1, h2⟩ := part_sound (w := w) hA hsz (Rel.aggL.1 (.agg hl hr)) hs
    exact Done.pure hS (by simp [execOp, ho, hX, Instr.field, run_underlying hu, hg, asAgg, h1]) h2

theorem st_idxV (hS : Sim K σ h w) {o : Oper} {t et : TypeId} {x z : Operand} (ho : o.op = .index t x z) {n : Nat} (hu : C.P.underlying t = some (.array n et)) {b : Bool} {s : Nat} (hA : isAggT C.P et = some b) (hsz : sizeT C.P et = some s)
    {y u : Opd} (hx : Rel K σ (y.ev e) (a.eval x)) (hz : Rel K σ (u.ev e) (a.eval z)) {fr : Nat} {v : AV} {h' : Hp} (hs : (RO.idxV b n s y u).step e h fr = some (v, h')) : DoneAt C K σ h w a fr v h' o := by
  simp only [RO.step] at hs
  generalize y.ev e = p at *
  generalize u.ev e = q at *
  generalize hX : a.eval x = X at *
  generalize hZ : a.eval z = Z at *
  cases hx <;> cases hz <;> simp only [reduceCtorEq] at hs
  case agg.int cs vs hl hr k i =>
    split at hs
    · rename_i hi
      obtain ⟨rfl, V, h1, h2⟩ := part_sound (w := w) hA hsz (Rel.aggL.1 (.agg hl hr)) hs
      exact Done.pure hS (by simp [execOp, ho, hX, hZ, Instr.index, asIntOf, run_underlying hu, hi, run_sizeOf' hsz, h1]) h2
    · cases hs

theorem st_idxS (hS : Sim K σ h w) {o : Oper} {t : TypeId} {x z : Operand} (ho : o.op = .index t x z) (hu : C.P.underlying t = some .string) 
    {y u : Opd} (hx : Rel K σ (y.ev e) (a.eval x)) (hz : Rel K σ (u.ev e) (a.eval z)) {fr : Nat} {v : AV} {h' : Hp} (hs : (RO.idxS y u).step e h fr = some (v, h')) : DoneAt C K σ h w a fr v h' o := by
  simp only [RO.step] at hs
  generalize y.ev e = p at *
  generalize u.ev e = q at *
  generalize hX : a.eval x = X at *
  generalize hZ : a.eval z = Z at *
  cases hx <;> cases hz <;> simp only [reduceCtorEq] at hs
  case str.int s k i =>
    split at hs
    · rename_i hi
      cases hb : s[i.toNat]? with
      | none => simp [hb] at hs
      | some b =>
        simp only [hb, Option.some.injEq, Prod.mk.injEq] at hs
        obtain ⟨rfl, rfl⟩ := hs
        exact Done.pure hS (by simp [execOp, ho, hX, hZ, Instr.index, asIntOf, run_underlying hu, hi, hb]) .int
    · cases hs

theorem st_idxA (hS : Sim K σ h w) {o : Oper} {t et : TypeId} {x z : Operand} (ho : o.op = .indexAddr t x z) (hu : C.P.underlying t = some (.slice et)) {s : Nat} (hsz : sizeT C.P et = some s)
    {y u : Opd} (hx : Rel K σ (y.ev e) (a.eval x)) (hz : Rel K σ (u.ev e) (a.eval z)) {fr : Nat} {v : AV} {h' : Hp} (hs : (RO.idxA s y u).step e h fr = some (v, h')) : DoneAt C K σ h w a fr v h' o := by
  simp only [RO.step] at hs
  generalize y.ev e = p at *
  generalize u.ev e = q at *
  generalize hX : a.eval x = X at *
  generalize hZ : a.eval z = Z at *
  cases hz <;> simp only [reduceCtorEq] at hs
  case int k i =>
    obtain ⟨h1, rfl⟩ := withH_some hs
    cases hx <;> simp only [idxAddr, reduceCtorEq] at h1
    case rs0 => simp at h1
    case rs es b off sz cap f hne hc hsz' hK hr =>
      split at h1
      · rename_i hi
        cases hg : es[i.toNat]? with
        | none => simp [hg] at h1
        | some cs =>
          simp only [hg] at h1
          split at h1
          · rename_i hcs
            cases h1
            have hlt : i.toNat < es.length := (List.getElem?_eq_some_iff.1 hg).1
            have hszs : sz = s := by rw [← hsz' cs (List.mem_of_getElem? hg)]; exact hcs
            subst hszs
            have hii : 0 ≤ i ∧ i < (es.length : Int) := ⟨hi, by omega⟩
            have := Rel.rp (K := K) (σ := σ) (cs := cs) (off := 0) (b := b) (o := off + i.toNat * sz) (f i.toNat) (fun j hj => hK _ j hlt (by omega)) (fun j a ha => hr _ j cs a hg ha)
            exact Done.pure hS (by simp [execOp, ho, hX, hZ, Instr.indexAt, asIntOf, run_underlying hu, hii, run_sizeOf' hsz, add_at]; rfl) (by simpa using this)
          · cases h1
      · cases h1
    case sl l off n c zz x' rc _ _ _ _ _ =>
      have hz : x'.sz = zz := by assumption
      split at h1
      · rename_i hi
        cases hb : Nat.beq zz s with
        | false => simp [hb] at h1
        | true =>
          simp only [hb, cond_true, Option.some.injEq] at h1
          subst h1
          obtain rfl := Nat.eq_of_beq_eq_true hb
          have := Rel.ptr (K := K) (σ := σ) (l := l) (i := off + i.toNat) (off := 0) (x := x') (by assumption)
          rw [hz] at this
          refine Done.pure hS (by simp [execOp, ho, hX, hZ, Instr.indexAt, asIntOf, run_underlying hu, hi, run_sizeOf' hsz, add_at]; rfl) ?_
          simpa [Nat.add_mul, Nat.add_assoc] using this
      · cases h1

theorem st_idxAarr (hS : Sim K σ h w) {o : Oper} {t et : TypeId} {x z : Operand} (ho : o.op = .indexAddr t x z) {n : Nat} (hu : C.P.underlying t = some (.array n et)) {s : Nat} (hsz : sizeT C.P et = some s)
    {y u : Opd} (hx : Rel K σ (y.ev e) (a.eval x)) (hz : Rel K σ (u.ev e) (a.eval z)) {fr : Nat} {v : AV} {h' : Hp} (hs : (RO.idxAarr n s y u).step e h fr = some (v, h')) : DoneAt C K σ h w a fr v h' o := by
  simp only [RO.step] at hs
  generalize y.ev e = p at *
  generalize u.ev e = q at *
  generalize hX : a.eval x = X at *
  generalize hZ : a.eval z = Z at *
  cases hx <;> cases hz <;> simp only [reduceCtorEq] at hs
  case ptr.int l j off x hσ k i =>
    split at hs
    · rename_i hi
      simp only [Option.some.injEq, Prod.mk.injEq] at hs
      obtain ⟨rfl, rfl⟩ := hs
      have := Rel.ptr (K := K) (l := l) (i := j) (off := off + i.toNat * s) hσ
      exact Done.pure hS (by simp [execOp, ho, hX, hZ, Instr.indexAt, Instr.sureAddr, asIntOf, run_underlying hu, hi, run_sizeOf' hsz, add_at]; rfl) (by simpa [Nat.add_assoc] using this)
    · cases hs
  case rp.int cs off b o1 f1 hK hr k i =>
    split at hs
    · rename_i hi
      simp only [Option.some.injEq, Prod.mk.injEq] at hs
      obtain ⟨rfl, rfl⟩ := hs
      have := Rel.rp (K := K) (σ := σ) (off := off + i.toNat * s) f1 hK hr
      exact Done.pure hS (by simp [execOp, ho, hX, hZ, Instr.indexAt, Instr.sureAddr, asIntOf, run_underlying hu, hi, run_sizeOf' hsz, add_at]; rfl) (by simpa [Nat.add_assoc] using this)
    · cases hs
end
end Go.Proofs.YtnibcojenlijgaaGreatDoor.Ev
