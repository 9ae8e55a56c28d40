/- Each operation's law, third part: literals, slices, append, make. No condition. -/
import Derived.Test.YtnibcojenlijgaaGreatDoorEv7
set_option linter.unusedVariables false
set_option linter.unusedSimpArgs false
namespace Go.Proofs.YtnibcojenlijgaaGreatDoor.Ev
open Go Go.RowKit

theorem setMany_right {α : Type} (vs : List α) : ∀ (p r : List α) (off : Nat), setMany (p.length + off) vs (p ++ r) = p ++ setMany off vs r := by
  induction vs with
  | nil => intros; rfl
  | cons v vs ih => intro p r off; simp only [setMany]; rw [List.set_append_right _ _ (by omega), Nat.add_assoc, ih]; congr 3; omega
theorem setMany_self {α : Type} (vs : List α) : ∀ (p e r : List α), vs.length = e.length → setMany p.length vs (p ++ (e ++ r)) = p ++ (vs ++ r) := by
  induction vs with
  | nil => intro p e r h; cases e with
    | nil => rfl
    | cons => simp at h
  | cons v vs ih =>
    intro p e r h
    cases e with
    | nil => simp at h
    | cons x e =>
      simp only [List.length_cons, Nat.add_right_cancel_iff] at h
      simp only [setMany, List.cons_append]
      rw [List.set_append_right _ _ (by omega), Nat.sub_self, List.set_cons_zero]
      have := ih (p ++ [v]) e r h
      simpa using this
theorem flatten_set {α : Type} {sz : Nat} : ∀ (es : List (List α)) (i : Nat) (vs : List α), (∀ e ∈ es, e.length = sz) → i < es.length → vs.length = sz → (es.set i vs).flatten = setMany (i * sz) vs es.flatten := by
  intro es
  induction es with
  | nil => intro i vs _ h; simp at h
  | cons e es ih =>
    intro i vs hl hi hv
    have he : e.length = sz := hl e (by simp)
    cases i with
    | zero =>
      simp only [List.set_cons_zero, List.flatten_cons, Nat.zero_mul]
      have := setMany_self vs [] e es.flatten (by omega)
      simpa using this.symm
    | succ i =>
      simp only [List.set_cons_succ, List.flatten_cons]
      rw [ih i vs (fun x hx => hl x (by simp [hx])) (by simpa using hi) hv]
      have := setMany_right vs e es.flatten (i * sz)
      rw [he] at this
      rw [← this]
      congr 1
      rw [Nat.add_mul]; omega
theorem flatten_get {α : Type} {sz : Nat} : ∀ (es : List (List α)) (i j : Nat), (∀ e ∈ es, e.length = sz) → j < sz → es.flatten[i * sz + j]? = (es[i]?).bind fun e => e[j]? := by
  intro es
  induction es with
  | nil => intro i j _ _; simp
  | cons e es ih =>
    intro i j hl hj
    have he : e.length = sz := hl e (by simp)
    cases i with
    | zero => simp [List.getElem?_append_left (show j < e.length by omega)]
    | succ i =>
      rw [List.flatten_cons, List.getElem?_append_right (by rw [Nat.add_mul]; omega)]
      rw [show (i + 1) * sz + j - e.length = i * sz + j by rw [Nat.add_mul]; omega, ih i j (fun x hx => hl x (by simp [hx])) hj]
      simp
theorem flatten_length {α : Type} {sz : Nat} : ∀ (es : List (List α)), (∀ e ∈ es, e.length = sz) → es.flatten.length = es.length * sz := by
  intro es
  induction es with
  | nil => simp
  | cons e es ih =>
    intro hl
    rw [List.flatten_cons, List.length_append, ih (fun x hx => hl x (by simp [hx])), hl e (by simp), List.length_cons, Nat.add_mul]
    omega

section
variable {C : Cfg} {K : Kn} {σ : Sg} {e : Env} {h : Hp} {w : World} {a : Act}

theorem RelL.setMany {as : List AV} {vs : List Value} : ∀ {off : Nat} {cs : List AV} {us : List Value}, RelL K σ as vs → RelL K σ cs us → RelL K σ (Ev.setMany off as cs) (Ev.setMany off vs us) := by
  induction as generalizing vs with
  | nil => intro off cs us h1 h2; cases vs with
    | nil => exact h2
    | cons => have := h1.1; simp at this
  | cons x as ih =>
    intro off cs us h1 h2
    cases vs with
    | nil => have := h1.1; simp at this
    | cons v vs => exact ih ⟨by simpa using h1.1, fun i a v g1 g2 => h1.2 (i + 1) a v (by simpa using g1) (by simpa using g2)⟩ (h2.set off (h1.2 0 x v rfl rfl))

theorem fold_setMany (off : Nat) : ∀ (l : List Value) (k : Nat) (A : Array Value), ((l.zipIdx k).foldl (fun (cs : Array Value) (x : Value × Nat) => cs.setIfInBounds (off + x.2) x.1) A).toList = Ev.setMany (off + k) l A.toList := by
  intro l
  induction l with
  | nil => intro k A; rfl
  | cons v l ih => intro k A; simp only [List.zipIdx_cons, List.foldl_cons, ih]; simp [Ev.setMany, Nat.add_assoc]

theorem fill_sound (hE : EnvR K σ e a.tmps) (hG : GlobOK C K) {place : Nat → Option (Nat × Nat)} : ∀ (ps : List (Nat × Operand)) (rps : List (Nat × Nat × Opd)) (cs cs' : List AV) (vs : Array Value),
    (ps.length = rps.length ∧ ∀ (q i : Nat) x off sz y, ps[q]? = some (i, x) → rps[q]? = some (off, sz, y) → place i = some (off, sz) ∧ rOpd C x = some y) →
    RelL K σ cs vs.toList → oneL cs = true → fillA (parts3 e rps) cs = some cs' → ∃ vs', Instr.fill place vs (ps.map fun p => (p.1, a.eval p.2)) = some vs' ∧ RelL K σ cs' vs'.toList ∧ oneL cs' = true := by
  intro ps
  induction ps with
  | nil => intro rps cs cs' vs h1 h2 h3 h4; cases rps with
    | nil => simp [parts3, fillA] at h4; subst h4; exact ⟨vs, rfl, h2, h3⟩
    | cons => simp at h1
  | cons p ps ih =>
    intro rps cs cs' vs h1 h2 h3 h4
    cases rps with
    | nil => simp at h1
    | cons r rps =>
      obtain ⟨i, x⟩ := p
      obtain ⟨off, sz, y⟩ := r
      obtain ⟨hp, hy⟩ := h1.2 0 i x off sz y rfl rfl
      have hx := rOpd_rel hE hG hy
      simp only [parts3, fillA] at h4
      cases hc : cellsO (y.ev e) with
      | none => simp [hc] at h4
      | some as =>
        simp only [hc] at h4
        cases hb1 : Nat.beq as.length sz with
        | false => simp [hb1] at h4
        | true =>
          cases hb2 : Nat.ble (off + sz) cs.length with
          | false => simp [hb1, hb2] at h4
          | true =>
            simp only [hb1, hb2, Bool.and_true, cond_true] at h4
            obtain ⟨g1, g2⟩ := hx.cellsO hc
            have e1 : (a.eval x).cells.size = sz := by have := g1.1; simp at this; rw [this]; exact Nat.eq_of_beq_eq_true hb1
            have e2 : off + sz ≤ vs.size := by have := h2.1; simp at this; rw [this]; exact Nat.le_of_ble_eq_true hb2
            have hone : oneL (Ev.setMany off as cs) = true := by
              have : ∀ (as : List AV) (off : Nat) (cs : List AV), oneL as = true → oneL cs = true → oneL (Ev.setMany off as cs) = true := by
                intro as
                induction as with
                | nil => intro off cs _ h; exact h
                | cons x as ih2 =>
                  intro off cs h h'
                  simp only [oneL, Bool.and_eq_true] at h
                  refine ih2 _ _ h.2 ?_
                  clear ih2 g1 g2 hc h4 h3 h2 hb2 ih h1 e2
                  induction cs generalizing off with
                  | nil => rfl
                  | cons c cs ih3 =>
                    simp only [oneL, Bool.and_eq_true] at h'
                    cases off with
                    | zero => simp [oneL, h.1, h'.2]
                    | succ off => simp [oneL, h'.1, ih3 off h'.2]
              exact this as off cs g2 h3
            obtain ⟨vs', k1, k2⟩ := ih rps (Ev.setMany off as cs) cs' ((a.eval x).cells.zipIdx.foldl (fun cs (c, j) => cs.setIfInBounds (off + j) c) vs) ⟨by simpa using h1.1, fun q => by
                intro i x off sz y q1 q2
                exact h1.2 (q + 1) i x off sz y (by simpa using q1) (by simpa using q2)⟩ (by
                have := fold_setMany off (a.eval x).cells.toList 0 vs
                rw [← Array.foldl_toList, Array.toList_zipIdx]
                rw [this]
                exact RelL.setMany g1 h2) hone h4
            refine ⟨vs', ?_, k2⟩
            simp only [List.map_cons, Instr.fill, hp, e1, ne_eq, not_true_eq_false, false_or]
            rw [if_neg (by simp; omega)]
            exact k1

theorem rParts3_some {places : List (Nat × Nat)} : ∀ {ps : List (Nat × Operand)} {rps : List (Nat × Nat × Opd)}, rParts3 C C.P places ps = some rps →
    ps.length = rps.length ∧ ∀ (q i : Nat) x off sz y, ps[q]? = some (i, x) → rps[q]? = some (off, sz, y) → places[i]? = some (off, sz) ∧ rOpd C x = some y := by
  intro ps
  induction ps with
  | nil => intro rps h; simp [rParts3] at h; subst h; simp
  | cons p ps ih =>
    intro rps h
    obtain ⟨i, x⟩ := p
    simp only [rParts3] at h
    cases h1 : places[i]? with
    | none => simp [h1] at h
    | some os =>
      obtain ⟨off, sz⟩ := os
      cases h2 : rOpd C x with
      | none => simp [h1, h2] at h
      | some y =>
        cases h3 : rParts3 C C.P places ps with
        | none => simp [h1, h2, h3] at h
        | some r =>
          simp only [h1, h2, h3, Option.some.injEq] at h
          subst h
          obtain ⟨k1, k2⟩ := ih h3
          refine ⟨by simp [k1], fun q i' x' off' sz' y' g1 g2 => ?_⟩
          cases q with
          | zero => simp at g1 g2; obtain ⟨rfl, rfl⟩ := g1; obtain ⟨rfl, rfl, rfl⟩ := g2; exact ⟨h1, h2⟩
          | succ q => exact k2 q i' x' off' sz' y' (by simpa using g1) (by simpa using g2)
theorem rParts2_some : ∀ {ps : List (Nat × Operand)} {rps : List (Nat × Opd)}, rParts2 C ps = some rps →
    ps.length = rps.length ∧ ∀ (q i : Nat) x j y, ps[q]? = some (i, x) → rps[q]? = some (j, y) → j = i ∧ rOpd C x = some y := by
  intro ps
  induction ps with
  | nil => intro rps h; simp [rParts2] at h; subst h; simp
  | cons p ps ih =>
    intro rps h
    obtain ⟨i, x⟩ := p
    simp only [rParts2] at h
    cases h2 : rOpd C x with
    | none => simp [h2] at h
    | some y =>
      cases h3 : rParts2 C ps with
      | none => simp [h2, h3] at h
      | some r =>
        simp only [h2, h3, Option.some.injEq] at h
        subst h
        obtain ⟨k1, k2⟩ := ih h3
        refine ⟨by simp [k1], fun q i' x' j' y' g1 g2 => ?_⟩
        cases q with
        | zero => simp at g1 g2; obtain ⟨rfl, rfl⟩ := g1; obtain ⟨rfl, rfl⟩ := g2; exact ⟨rfl, h2⟩
        | succ q => exact k2 q i' x' j' y' (by simpa using g1) (by simpa using g2)

theorem mapM_run {α β : Type} {P : Program} {f : α → Sem β} {g : α → Option β} (hf : ∀ x y, g x = some y → ∀ w, (f x).run P w = .ok y w) : ∀ (l : List α) (r : List β), mapO g l = some r → ∀ w, (l.mapM f).run P w = .ok r w := by
  intro l
  induction l with
  | nil => intro r h w; simp [mapO] at h; subst h; rfl
  | cons x l ih =>
    intro r h w
    simp only [mapO] at h
    cases h1 : g x with
    | none => simp [h1] at h
    | some y =>
      cases h2 : mapO g l with
      | none => simp [h1, h2] at h
      | some ys =>
        simp only [h1, h2, Option.some.injEq] at h
        subst h
        rw [List.mapM_cons, Sem.run_bind, hf x y h1]
        simp only [Result.andThen_ok, Sem.run_bind, ih ys h2, Sem.run_pure]

theorem parts_toList (ps : Array (Nat × Operand)) (a : Act) : (ps.map fun p => (p.1, a.eval p.2)).toList = ps.toList.map fun p => (p.1, a.eval p.2) := by simp

theorem st_build (hS : Sim K σ h w) (hE : EnvR K σ e a.tmps) (hG : GlobOK C K) {o : Oper} {t : TypeId} {ps : Array (Nat × Operand)} (ho : o.op = .build t ps) {z : List AV} (hz : zeroT C.P t = some z) {pl : List (Nat × Nat)} (hpl : placesT C.P t = some pl) {rps : List (Nat × Nat × Opd)}
    (hr : rParts3 C C.P pl ps.toList = some rps) {fr : Nat} {v : AV} {h' : Hp} (hs : (RO.build z rps).step e h fr = some (v, h')) : DoneAt C K σ h w a fr v h' o := by
  obtain ⟨i, u, h1, h2, h3, h4⟩ := zeroT_some (K := K) (σ := σ) hz
  simp only [RO.step] at hs
  cases hf : fillA (parts3 e rps) z with
  | none => simp [hf] at hs
  | some cs =>
    simp only [hf, Option.some.injEq, Prod.mk.injEq] at hs
    obtain ⟨rfl, rfl⟩ := hs
    obtain ⟨k1, k2⟩ := rParts3_some hr
    unfold placesT at hpl
    cases hu : C.P.underlying t with
    | none => simp [hu] at hpl
    | some d =>
      cases d <;> simp only [hu, reduceCtorEq] at hpl
      case struct fs =>
        obtain ⟨vs', g1, g2, _⟩ := fill_sound (a := a) hE hG (place := fun i => pl[i]?) ps.toList rps z cs u.cells ⟨k1, k2⟩ h3 h4 hf
        have hm := mapM_run (P := C.P) (f := fun (f : Field) => (do pure (f.offset, ← sizeOf f.type) : Sem (Nat × Nat))) (g := fun (f : Field) => match sizeT C.P f.type with | some s => some (f.offset, s) | none => none) (fun x y hxy w => by
          cases hs : sizeT C.P x.type with
          | none => simp [hs] at hxy
          | some s => simp only [hs, Option.some.injEq] at hxy; subst hxy; simp [run_sizeOf' hs]) fs.toList pl hpl w
        have hm' : (fs.mapM fun (f : Field) => (do pure (f.offset, ← sizeOf f.type) : Sem (Nat × Nat))).run C.P w = .ok pl.toArray w := by
          rw [Array.mapM_eq_mapM_toList]
          simp only [map_eq_pure_bind, Sem.run_bind, Sem.run_pure] at hm ⊢
          rw [hm]
          rfl
        refine Done.pure hS (V := .agg vs') ?_ (Rel.aggL.2 g2)
        simp only [execOp, ho, Instr.build, Sem.run_bind, zeroValue, typeInfo, run_program, h1, h2, Result.andThen_ok, Sem.run_pure, run_underlying hu, hm', parts_toList]
        have hfun : (fun (x : Nat) => pl.toArray[x]?) = fun (i : Nat) => pl[i]? := by funext x; simp
        simp [hfun, g1]
      case array n el =>
        cases hsz : sizeT C.P el with
        | none => simp [hsz] at hpl
        | some s =>
          simp only [hsz, Option.some.injEq] at hpl
          subst hpl
          obtain ⟨vs', g1, g2, _⟩ := fill_sound (a := a) hE hG (place := fun i => some (i * s, s)) ps.toList rps z cs u.cells ⟨k1, fun q i x off sz y q1 q2 => by
            obtain ⟨e1, e2⟩ := k2 q i x off sz y q1 q2
            simp only [List.getElem?_map, Option.map_eq_some_iff] at e1
            obtain ⟨j, e1, e3⟩ := e1
            have : j = i := by simpa [List.getElem?_range] using (List.getElem?_eq_some_iff.1 e1).2.symm
            subst this
            exact ⟨by rw [← e3], e2⟩⟩ h3 h4 hf
          refine Done.pure hS (V := .agg vs') ?_ (Rel.aggL.2 g2)
          simp only [execOp, ho, Instr.build, Sem.run_bind, zeroValue, typeInfo, run_program, h1, h2, Result.andThen_ok, Sem.run_pure, run_underlying hu, run_sizeOf' hsz, parts_toList, g1]

theorem parts2_to3 {sz : Nat} : ∀ (rps : List (Nat × Opd)) (es es' : List (List AV)), (∀ e ∈ es, e.length = sz) → fillS sz (parts2 e rps) es = some es' →
    fillA (parts3 e (rps.map fun p => (p.1 * sz, sz, p.2))) es.flatten = some es'.flatten ∧ (∀ e ∈ es', e.length = sz) ∧ es'.length = es.length := by
  intro rps
  induction rps with
  | nil => intro es es' h1 h2; simp [parts2, fillS] at h2; subst h2; exact ⟨rfl, h1, rfl⟩
  | cons p rps ih =>
    intro es es' h1 h2
    obtain ⟨i, y⟩ := p
    simp only [parts2, fillS] at h2
    cases hc : cellsO (y.ev e) with
    | none => simp [hc] at h2
    | some vs =>
      simp only [hc] at h2
      cases hb1 : Nat.beq vs.length sz with
      | false => simp [hb1] at h2
      | true =>
        cases hb2 : Nat.blt i es.length with
        | false => simp [hb1, hb2] at h2
        | true =>
          simp only [hb1, hb2, Bool.and_true, cond_true] at h2
          have hv := Nat.eq_of_beq_eq_true hb1
          have hi : i < es.length := Nat.le_of_ble_eq_true hb2
          have hl' : ∀ x ∈ es.set i vs, x.length = sz := by
            intro x hx
            rcases List.mem_or_eq_of_mem_set hx with hx | rfl
            · exact h1 x hx
            · exact hv
          obtain ⟨g1, g2, g3⟩ := ih _ es' hl' h2
          refine ⟨?_, g2, by simpa using g3⟩
          simp only [List.map_cons, parts3, fillA, hc, hb1, Bool.true_and]
          rw [flatten_set es i vs h1 hi hv] at g1
          have : Nat.ble (i * sz + sz) es.flatten.length = true := by
            rw [flatten_length es h1]
            apply Nat.ble_eq_true_of_le
            have := Nat.mul_le_mul_right sz (show i + 1 ≤ es.length from hi)
            rw [Nat.add_mul] at this
            omega
          rw [this]; exact g1

theorem row_flat {sz : Nat} {es : List (List AV)} {c : Array Value} (hl : ∀ e ∈ es, e.length = sz) (hr : RelL K σ es.flatten c.toList) (ho : oneL es.flatten = true) : Row K σ sz es 0 c where
  fit := by have := hr.1; rw [flatten_length es hl] at this; simp at this; omega
  len := hl
  at_ i j x p h1 h2 := by
    have hj : j < sz := by rw [← hl x (List.mem_of_getElem? h1)]; exact (List.getElem?_eq_some_iff.1 h2).1
    have hg := flatten_get es i j hl hj
    rw [h1] at hg
    simp only [Option.bind_some, h2] at hg
    have hlt : i * sz + j < c.size := by have h1 := (List.getElem?_eq_some_iff.1 hg).1; have h2 := hr.1; simp only [Array.length_toList] at h2; omega
    have hv : c.toList[i * sz + j]? = some c[i * sz + j] := by simp [hlt]
    exact ⟨c[i * sz + j], by simp [hlt], hr.ones ho _ (List.mem_of_getElem? hv), hr.2 _ p _ hg hv⟩

theorem rep_flat {z : List AV} {u : Array Value} (h3 : RelL K σ z u.toList) (h0 : 0 < z.length) (n : Nat) : RelL K σ (List.replicate n z).flatten ((Array.range (n * z.length)).map fun q => u[q % u.size]!).toList := by
  have hus : u.size = z.length := by have := h3.1; simpa using this
  refine ⟨by rw [flatten_length (sz := z.length) _ (by intro x hx; simp at hx; rw [hx.2])]; simp, fun q p v g1 g2 => ?_⟩
  have hq : q < n * z.length := by
    have := (List.getElem?_eq_some_iff.1 g1).1
    rw [flatten_length (sz := z.length) _ (by intro x hx; simp at hx; rw [hx.2])] at this
    simpa using this
  have hj := Nat.mod_lt q h0
  have hfg := flatten_get (sz := z.length) (List.replicate n z) (q / z.length) (q % z.length) (by intro x hx; simp at hx; rw [hx.2]) hj
  rw [Nat.div_add_mod'] at hfg
  rw [hfg] at g1
  have hd : q / z.length < n := (Nat.div_lt_iff_lt_mul h0).2 hq
  simp only [List.getElem?_replicate, hd, if_true, Option.bind_some] at g1
  simp [hq] at g2
  subst g2
  rw [hus]
  refine h3.2 _ p _ g1 ?_
  have : q % z.length < u.size := by rw [hus]; exact hj
  simp [this]

theorem oneL_replicate {z : List AV} (ho : oneL z = true) (n : Nat) : oneL (List.replicate n z).flatten = true := by
  induction n with
  | zero => rfl
  | succ n ih =>
    rw [List.replicate_succ, List.flatten_cons]
    clear ih
    have app : ∀ (x y : List AV), oneL x = true → oneL y = true → oneL (x ++ y) = true := by
      intro x y h1 h2
      induction x with
      | nil => exact h2
      | cons c x ih => simp only [oneL, Bool.and_eq_true] at h1; simp [oneL, h1.1, ih h1.2]
    refine app _ _ ho ?_
    induction n with
    | zero => rfl
    | succ n ih => rw [List.replicate_succ, List.flatten_cons]; exact app _ _ ho ih

/-- What a literal of a slice comes to. -/
theorem bslice_run (hE : EnvR K σ e a.tmps) (hG : GlobOK C K) {o : Oper} {t et : TypeId} {n : Nat} {ps : Array (Nat × Operand)} (ho : o.op = .buildSlice t n ps) (hu : C.P.underlying t = some (.slice et)) {z : List AV} (hz : zeroT C.P et = some z) (hsz : sizeT C.P et = some z.length) (h0 : 0 < z.length) (hn0 : 0 < n) (hn : n * z.length ≤ 16777216) {rps : List (Nat × Opd)}
    (hr : rParts2 C ps.toList = some rps) {es : List (List AV)} (hf : fillS z.length (parts2 e rps) (List.replicate n z) = some es) :
    ∃ c : Array Value, (execOp a.eval o).run C.P w = .ok (.value (.slice (some ⟨w.heap.size, 0, none⟩) n n)) (w.alloc (.cells c et)) ∧ RelL K σ es.flatten c.toList ∧ oneL es.flatten = true ∧ (∀ x ∈ es, x.length = z.length) ∧ es.length = n ∧ c.size = n * z.length := by
  obtain ⟨i, u, h1, h2, h3, h4⟩ := zeroT_some (K := K) (σ := σ) hz
  obtain ⟨k1, k2⟩ := rParts2_some hr
  have hlz : ∀ x ∈ List.replicate n z, x.length = z.length := by intro x hx; simp at hx; rw [hx.2]
  obtain ⟨g1, g2, g3⟩ := parts2_to3 rps _ es hlz hf
  obtain ⟨vs', f1, f2, f3⟩ := fill_sound (a := a) hE hG (place := fun i => some (i * z.length, z.length)) ps.toList _ _ _ ((Array.range (n * z.length)).map fun q => u.cells[q % u.cells.size]!) ⟨by simpa using k1, fun q i x off sz y q1 q2 => by
      simp only [List.getElem?_map, Option.map_eq_some_iff] at q2
      obtain ⟨⟨j, y'⟩, q2, q3⟩ := q2
      obtain ⟨rfl, e2⟩ := k2 q i x j y' q1 q2
      simp only [Prod.mk.injEq] at q3
      obtain ⟨rfl, rfl, rfl⟩ := q3
      exact ⟨rfl, e2⟩⟩ (rep_flat h3 h0 n) (oneL_replicate h4 n) g1
  refine ⟨vs', ?_, f2, f3, g2, by simpa using g3, ?_⟩
  · have hne : ¬ (n * z.length = 0) := by
      intro he
      rcases Nat.mul_eq_zero.1 he with he | he <;> omega
    have hle : ¬ (n * z.length > 2 ^ 24) := by omega
    simp only [execOp, ho, Instr.buildSlice, Sem.run_bind, run_underlying hu, Result.andThen_ok, run_sizeOf' hsz, if_neg hle, if_neg hne, zeroValue, typeInfo, run_program, h1, h2, Sem.run_pure, parts_toList, f1]
    rfl
  · have := f2.1
    rw [flatten_length es g2] at this
    simp at this g3
    rw [this, g3]

theorem st_bslice (hS : Sim K σ h w) (hE : EnvR K σ e a.tmps) (hG : GlobOK C K) {o : Oper} {t et : TypeId} {n : Nat} {ps : Array (Nat × Operand)} (ho : o.op = .buildSlice t n ps) (hu : C.P.underlying t = some (.slice et)) {z : List AV} (hz : zeroT C.P et = some z) (hsz : sizeT C.P et = some z.length) (hn0 : 0 < n) (hn : n * z.length ≤ 16777216) {rps : List (Nat × Opd)}
    (hr : rParts2 C ps.toList = some rps) {fr : Nat} (hfr : σ fr = none) {v : AV} {h' : Hp} (hs : (RO.bslice z n rps).step e h fr = some (v, h')) : DoneAt C K σ h w a fr v h' o := by
  simp only [RO.step] at hs
  cases h4 : oneL z with
  | false => simp [h4] at hs
  | true =>
    cases h0 : Nat.blt 0 z.length with
    | false => simp [h4, h0] at hs
    | true =>
      have h0' : 0 < z.length := Nat.le_of_ble_eq_true h0
      simp only [h4, h0, Bool.and_true, cond_true] at hs
      cases hf : fillS z.length (parts2 e rps) (List.replicate n z) with
      | none => simp [hf] at hs
      | some es =>
        simp only [hf, Option.some.injEq, Prod.mk.injEq] at hs
        obtain ⟨rfl, rfl⟩ := hs
        obtain ⟨c, f1, f2, f3, f4, f5, f6⟩ := bslice_run (w := w) (a := a) hE hG ho hu hz hsz h0' hn0 hn hr hf
        obtain ⟨g1, g2⟩ := hS.new hfr et (row_flat f4 f2 f3)
        refine ⟨_, _, K, _, .inl f1, ?_, g1, g2, fun l hl => sput_other hl⟩
        have := Rel.sl (K := K) (σ := sput σ fr ⟨w.heap.size, 0, z.length, c.size⟩) (l := fr) (off := 0) (n := n) (c := some n) (z := z.length) (rc := n) sput_self rfl (Nat.le_refl _) (fun k hk => by cases hk; rfl) (by rw [f6]; simp)
        simpa using this

/-- Memory that is never written again. -/
theorem Sim.freezeNew (hS : Sim K σ h w) {sz : Nat} {es : List (List AV)} {c : Array Value} (t : TypeId) (hr : Row K σ sz es 0 c) (hfree : refFreeLL es = true) (hone : ∀ v ∈ c.toList, v.oneCell' = true) (cap : Nat) (hcap : es.length ≤ cap) :
    ∃ K', Rel K' σ (.rs es) (.slice (some ⟨w.heap.size, 0, none⟩) es.length cap) ∧ Sim K' σ h (w.alloc (.cells c t)) ∧ Ext K σ h w K' σ h (w.alloc (.cells c t)) := by
  have hnone : ∀ o, K w.heap.size o = none := fun o => by
    cases hk : K w.heap.size o with
    | none => rfl
    | some v => exact absurd (block_lt (hS.kn _ _ _ hk).1) (by simp)
  have hg := hS.grow (w' := w.alloc (.cells c t)) (fun b hb => alloc_heap w _ b hb)
  let K' : Kn := fun b o => if b = w.heap.size then c[o]? else K b o
  have hle : KLe K K' := fun b o v hv => by
    have : b ≠ w.heap.size := fun e => by subst e; rw [hnone] at hv; cases hv
    simp [K', this, hv]
  have e := Ext.grow (K := K) (σ := σ) (h := h) (w := w) c t
  refine ⟨K', ?_, ⟨fun b o v hv => ?_, fun l B hl => ?_, hg.dj⟩, ⟨hle, SLe.refl _, e.size, e.keep, fun b hb _ o => ?_, e.own, rfl, rfl, rfl, e.frozen⟩⟩
  · by_cases hne : es = []
    · subst hne; exact .rs0
    · refine Rel.rs (off := 0) (sz := sz) (fun i j => (c[i * sz + j]?).getD undef) hne hcap hr.len (fun i j h1 h2 => ?_) fun i j x p h1 h2 => ?_
      · have hx : es[i]? = some es[i] := by simp [h1]
        have hj : j < (es[i]).length := by rw [hr.len _ (List.mem_of_getElem? hx)]; exact h2
        obtain ⟨v, g1, _, _⟩ := hr.at_ i j es[i] (es[i])[j] hx (by simp [hj])
        simp only [Nat.zero_add] at g1 ⊢
        simp [K', g1]
      · obtain ⟨v, g1, _, g3⟩ := hr.at_ i j x p h1 h2
        simp only [Nat.zero_add] at g1
        rw [g1]
        exact (g3.free (refFreeL_mem (refFreeLL_mem hfree i x h1) j p h2) _).mono hle (SLe.refl _)
  · by_cases hb : b = w.heap.size
    · subst hb
      simp only [K', if_true] at hv
      exact ⟨by unfold World.cell?; rw [alloc_heap_new]; simp [hv], hone v (List.mem_of_getElem? (by simpa using hv))⟩
    · simp only [K', if_neg hb] at hv
      exact hg.kn b o v hv
  · obtain ⟨x, c', t', h1, h2, h3, h4, h5, h6, h7, h8⟩ := hg.bk l B hl
    obtain ⟨x', _, _, h1', _, h3', _⟩ := hS.bk l B hl
    rw [h1] at h1'; cases h1'
    have hne : x.b ≠ w.heap.size := Nat.ne_of_lt (heap_lt h3')
    exact ⟨x, c', t', h1, h2, h3, h4, h5, h6, fun i j y p g1 g2 => by
      obtain ⟨v, g3, g4, g5⟩ := h7 i j y p g1 g2
      exact ⟨v, g3, g4, g5.mono hle (SLe.refl _)⟩, fun o => by simp [K', hne, h8 o]⟩
  · simp [K', Nat.ne_of_lt hb]

theorem st_blit (hS : Sim K σ h w) (hE : EnvR K σ e a.tmps) (hG : GlobOK C K) {o : Oper} {t et : TypeId} {n : Nat} {ps : Array (Nat × Operand)} (ho : o.op = .buildSlice t n ps) (hu : C.P.underlying t = some (.slice et)) {z : List AV} (hz : zeroT C.P et = some z) (hsz : sizeT C.P et = some z.length) (hn0 : 0 < n) (hn : n * z.length ≤ 16777216) {rps : List (Nat × Opd)}
    (hr : rParts2 C ps.toList = some rps) {fr : Nat} {v : AV} {h' : Hp} (hs : (RO.blit z n rps).step e h fr = some (v, h')) : DoneAt C K σ h w a fr v h' o := by
  simp only [RO.step] at hs
  cases h4 : oneL z with
  | false => simp [h4] at hs
  | true =>
    cases h0 : Nat.blt 0 z.length with
    | false => simp [h4, h0] at hs
    | true =>
      have h0' : 0 < z.length := Nat.le_of_ble_eq_true h0
      simp only [h4, h0, Bool.and_true, cond_true] at hs
      cases hf : fillS z.length (parts2 e rps) (List.replicate n z) with
      | none => simp [hf] at hs
      | some es =>
        simp only [hf] at hs
        cases hfree : refFreeLL es with
        | false => simp [hfree] at hs
        | true =>
          simp only [hfree, cond_true, Option.some.injEq, Prod.mk.injEq] at hs
          obtain ⟨rfl, rfl⟩ := hs
          obtain ⟨c, f1, f2, f3, f4, f5, f6⟩ := bslice_run (w := w) (a := a) hE hG ho hu hz hsz h0' hn0 hn hr hf
          obtain ⟨K', g1, g2, g3⟩ := hS.freezeNew et (row_flat f4 f2 f3) hfree (f2.ones f3) n (by omega)
          rw [f5] at g1
          exact ⟨_, _, K', σ, .inl f1, g1, g2, g3, fun _ _ => rfl⟩

theorem st_ext (hS : Sim K σ h w) {o : Oper} {x : Operand} {i : Nat} (ho : o.op = .extract x i) {y : Opd} (hx : Rel K σ (y.ev e) (a.eval x)) {fr : Nat} {v : AV} {h' : Hp} (hs : (RO.ext y i).step e h fr = some (v, h')) : DoneAt C K σ h w a fr v h' o := by
  simp only [RO.step] at hs
  generalize y.ev e = p at *
  generalize hX : a.eval x = X at *
  cases hx <;> simp only [reduceCtorEq] at hs
  case tup cs vs hl hr =>
    obtain ⟨h1, rfl⟩ := withH_some hs
    have hlt : i < vs.size := by rw [hl]; exact (List.getElem?_eq_some_iff.1 h1).1
    exact Done.pure hS (V := vs[i]) (by simp [execOp, ho, hX, Instr.extract, hlt]) (hr i v _ h1 (by simp [hlt]))

theorem st_lenL (hS : Sim K σ h w) {o : Oper} {c : Call} {x : Operand} (ho : o.op = .call c) (hc : c.callee = .builtin .len) {t et : TypeId} (ht : c.argTypes[0]? = some t) (hu : C.P.underlying t = some (.slice et)) (ha : c.args.toList = [x]) {y : Opd} (hx : Rel K σ (y.ev e) (a.eval x)) {fr : Nat} {v : AV} {h' : Hp}
    (hs : (RO.lenL y).step e h fr = some (v, h')) : DoneAt C K σ h w a fr v h' o := by
  obtain ⟨callee, args, tys⟩ := c
  simp only at hc ha ht
  subst hc
  obtain rfl : args = #[x] := by cases args; simp_all
  simp only [RO.step] at hs
  generalize y.ev e = p at *
  generalize hX : a.eval x = X at *
  have fin : ∀ (ao : Option Addr) (n cap : Nat), X = .slice ao n cap → (execOp a.eval o).run C.P w = .ok (.value (.int .i64 n)) w := by
    rintro ao n cap rfl
    simp [execOp, ho, resolve, invoke, builtin, Builtin.len_, ht, hX, run_underlying hu, goInt]
  cases hx <;> simp only [lenA, Option.some.injEq, Prod.mk.injEq, reduceCtorEq] at hs
  all_goals
    obtain ⟨rfl, rfl⟩ := hs
    exact Done.pure hS (fin _ _ _ rfl) .int

theorem st_lenS (hS : Sim K σ h w) {o : Oper} {c : Call} {x : Operand} (ho : o.op = .call c) (hc : c.callee = .builtin .len) {t : TypeId} (ht : c.argTypes[0]? = some t) (hu : C.P.underlying t = some .string) (ha : c.args.toList = [x]) {y : Opd} (hx : Rel K σ (y.ev e) (a.eval x)) {fr : Nat} {v : AV} {h' : Hp}
    (hs : (RO.lenS y).step e h fr = some (v, h')) : DoneAt C K σ h w a fr v h' o := by
  obtain ⟨callee, args, tys⟩ := c
  simp only at hc ha ht
  subst hc
  obtain rfl : args = #[x] := by cases args; simp_all
  simp only [RO.step] at hs
  generalize y.ev e = p at *
  generalize hX : a.eval x = X at *
  cases hx <;> simp only [Option.some.injEq, Prod.mk.injEq, reduceCtorEq] at hs
  obtain ⟨rfl, rfl⟩ := hs
  exact Done.pure hS (by simp [execOp, ho, resolve, invoke, builtin, Builtin.len_, ht, hX, run_underlying hu, goInt]) .int
theorem st_lenA (hS : Sim K σ h w) {o : Oper} {c : Call} {x : Operand} (ho : o.op = .call c) (hc : c.callee = .builtin .len) {t et : TypeId} {n : Nat} (ht : c.argTypes[0]? = some t) (hu : C.P.underlying t = some (.array n et)) (ha : c.args.toList = [x]) {fr : Nat} {v : AV} {h' : Hp}
    (hs : (RO.mov (.con (.int .i64 n))).step e h fr = some (v, h')) : DoneAt C K σ h w a fr v h' o := by
  obtain ⟨callee, args, tys⟩ := c
  simp only at hc ha ht
  subst hc
  obtain rfl : args = #[x] := by cases args; simp_all
  simp only [RO.step, Opd.ev, Option.some.injEq, Prod.mk.injEq] at hs
  obtain ⟨rfl, rfl⟩ := hs
  exact Done.pure hS (by simp [execOp, ho, resolve, invoke, builtin, Builtin.len_, ht, run_underlying hu, goInt]) .int
end
end Go.Proofs.YtnibcojenlijgaaGreatDoor.Ev
