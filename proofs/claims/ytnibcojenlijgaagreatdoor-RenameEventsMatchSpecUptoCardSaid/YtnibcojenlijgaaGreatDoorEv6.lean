/- Each operation's law. No condition. -/
import Derived.Test.YtnibcojenlijgaaGreatDoorEv5
import Derived.Laws.StructEq
set_option linter.unusedVariables false
set_option linter.unusedSimpArgs false
namespace Go.Proofs.YtnibcojenlijgaaGreatDoor.Ev
open Go Go.RowKit

def EnvR (K : Kn) (σ : Sg) (e : Env) (tmps : Array Value) : Prop := ∀ t, Rel K σ (e t) (tmps.getD t undef)
def GlobOK (C : Cfg) (K : Kn) : Prop := ∀ g cs, C.G g = some cs → ∃ f : Nat → Value, (∀ j, j < cs.length → K g j = some (f j)) ∧ ∀ (j : Nat) a, cs[j]? = some a → Rel K (fun _ => none) a (f j)
theorem GlobOK.mono {C K K'} (h : GlobOK C K) (hk : KLe K K') : GlobOK C K' := fun g cs hg => by
  obtain ⟨f, h1, h2⟩ := h g cs hg
  exact ⟨f, fun j hj => hk _ _ _ (h1 j hj), fun j a ha => (h2 j a ha).mono hk (SLe.refl _)⟩
theorem EnvR.mono {K K' σ σ' e t} (h : EnvR K σ e t) (hk : KLe K K') (hs : SLe σ σ') : EnvR K' σ' e t := fun i => (h i).mono hk hs

theorem avOf_rel {K σ} : ∀ (n : Nat) (v : Value), Rel K σ (avOf n v) v := by
  intro n
  induction n with
  | zero => intro v; exact .top
  | succ n ih =>
    intro v
    unfold avOf
    split
    · exact .bool
    · exact .int
    · exact .str
    · exact .nilp
    · exact .nils
    · exact .nilf
    · rename_i cs
      refine Rel.aggL.2 ⟨by simp, fun i a v h1 h2 => ?_⟩
      simp at h1 h2
      obtain ⟨u, h3, rfl⟩ := h1
      rw [h2] at h3; cases h3
      exact ih _
    · exact .top

section
variable {C : Cfg} {K : Kn} {σ : Sg} {e : Env} {h : Hp} {w : World} {a : Act}
theorem rOpd_rel (hE : EnvR K σ e a.tmps) (hG : GlobOK C K) {x : Operand} {y : Opd} (hr : rOpd C x = some y) : Rel K σ (y.ev e) (a.eval x) := by
  cases x with
  | tmp t => simp only [rOpd, Option.some.injEq] at hr; subst hr; exact hE t
  | const v => simp only [rOpd, Option.some.injEq] at hr; subst hr; exact avOf_rel _ _
  | func f =>
    simp only [rOpd, Option.some.injEq] at hr; subst hr
    exact .fn rfl rfl (fun i x v h => by simp at h) fun i x v h => by simp at h
  | global g =>
    simp only [rOpd] at hr
    cases hg : C.G g with
    | none => simp [hg] at hr
    | some cs =>
      simp only [hg, Option.some.injEq] at hr; subst hr
      obtain ⟨f, h1, h2⟩ := hG g cs hg
      have := Rel.rp (K := K) (σ := σ) (off := 0) (o := 0) f (fun j hj => by simpa using h1 j hj) h2 (b := g)
      simpa [Opd.ev, Act.eval] using this

/-- What an operation comes to. -/
def Done (K : Kn) (σ : Sg) (h : Hp) (w : World) (fr : Nat) (v : AV) (h' : Hp) (run : Result Next) : Prop :=
  ∃ V w' K' σ', (run = .ok (.value V) w' ∨ (run = .ok .skip w' ∧ V = undef)) ∧ Rel K' σ' v V ∧ Sim K' σ' h' w' ∧ Ext K σ h w K' σ' h' w' ∧ (∀ l, l ≠ fr → σ' l = σ l)
theorem Done.pure (hS : Sim K σ h w) {fr : Nat} {v : AV} {V : Value} {r : Result Next} (hr : r = .ok (.value V) w) (hv : Rel K σ v V) : Done K σ h w fr v h r :=
  ⟨V, w, K, σ, .inl hr, hv, hS, Ext.refl _ _ _ _, fun _ _ => rfl⟩
theorem withH_some {h h' : Hp} {o : Option AV} {v : AV} (hw : withH h o = some (v, h')) : o = some v ∧ h' = h := by
  cases o with
  | none => simp [withH] at hw
  | some u => simp [withH] at hw; exact ⟨by rw [hw.1], hw.2.symm⟩

theorem intBin_sound {op : BinOp} {k : IntKind} {x y : Int} {v : AV} (hv : intBin op k x y = some v) (w : World) : ∃ V, (binOp op 0 (.int k x) (.int k y)).run C.P w = .ok V w ∧ Rel K σ v V ∧ ∀ t, binOp op t (.int k x) (.int k y) = binOp op 0 (.int k x) (.int k y) := by
  cases op <;> simp only [intBin] at hv
  case quo => split at hv <;> cases hv; rename_i hne; exact ⟨_, by simp [binOp, Op.intDiv, hne], .int, fun _ => rfl⟩
  case rem => split at hv <;> cases hv; rename_i hne; exact ⟨_, by simp [binOp, Op.intDiv, hne], .int, fun _ => rfl⟩
  all_goals first
    | (cases hv; done)
    | (cases hv; exact ⟨_, by simp only [binOp, ne_eq, not_true_eq_false, if_false]; rfl, .int, fun _ => rfl⟩)
    | (cases hv; exact ⟨_, by simp only [binOp, ne_eq, not_true_eq_false, if_false]; rfl, .bool, fun _ => rfl⟩)

theorem avBin_sound {op : BinOp} {x y v : AV} {X Y : Value} (hx : Rel K σ x X) (hy : Rel K σ y Y) (hv : avBin op x y = some v) (t : TypeId) (w : World) : ∃ V, (binOp op t X Y).run C.P w = .ok V w ∧ Rel K σ v V := by
  cases hx <;> cases hy <;> simp only [avBin] at hv <;> try (cases hv; done)
  case int.int k a k' b =>
    by_cases hsh : op = .shl ∨ op = .shr
    · rcases hsh with rfl | rfl
      all_goals
        simp only [shBin] at hv
        split at hv
        · cases hv
        · rename_i hneg
          cases hv
          exact ⟨_, by simp only [binOp, Op.shift, if_neg hneg]; rfl, .int⟩
    · have hv' : (bif decide (k = k') then intBin op k a b else none) = some v := by
        cases op <;> first | exact hv | exact absurd (.inl rfl) hsh | exact absurd (.inr rfl) hsh
      by_cases hk : k = k'
      · subst hk
        simp only [decide_true, cond_true] at hv'
        obtain ⟨V, h1, h2, h3⟩ := intBin_sound (C := C) (K := K) (σ := σ) hv' w
        exact ⟨V, by rw [h3 t]; exact h1, h2⟩
      · simp [hk] at hv'
  case str.str a b =>
    cases op <;> simp only [strBin] at hv
    case add =>
      split at hv
      · cases hv
      · rename_i hlt
        cases hv
        exact ⟨_, by simp only [binOp, Op.stringOp, if_neg hlt]; rfl, .str⟩
    all_goals first
      | (cases hv; done)
      | (cases hv; exact ⟨_, by simp only [binOp, Op.stringOp]; rfl, .bool⟩)

theorem avUn_sound {op : UnOp} {x v : AV} {X : Value} (hx : Rel K σ x X) (hv : avUn op x = some v) (w : World) : ∃ V, (Op.unary op X).run C.P w = .ok V w ∧ Rel K σ v V := by
  cases hx <;> cases op <;> simp only [avUn] at hv <;> first
    | (cases hv; done)
    | (cases hv; exact ⟨_, by simp only [Op.unary, Op.intArith, Op.intBits]; rfl, .int⟩)
    | (cases hv; exact ⟨_, by simp only [Op.unary]; rfl, .bool⟩)

/-! ### Equality of structs -/
theorem eqLeaves_append (l r : List (Nat × Nat)) (xs ys : List AV) : eqLeaves (l ++ r) xs ys = match eqLeaves l xs ys with
    | some b => bif b then eqLeaves r xs ys else some false
    | none => none := by
  induction l with
  | nil => simp [eqLeaves]
  | cons p l ih =>
    obtain ⟨off, kind⟩ := p
    simp only [List.cons_append, eqLeaves]
    cases xs[off]? with
    | none => rfl
    | some x => cases ys[off]? with
      | none => rfl
      | some y =>
        simp only
        cases eqLeaf kind x y with
        | none => rfl
        | some b => cases b <;> simp [ih]

def PartOf (p : Program) (t : TypeId) (xs : Array Value) (off : Nat) (X : Value) : Prop :=
  (isAggT p t = some false ∧ xs[off]? = some X) ∨ (isAggT p t = some true ∧ ∃ zs, X = .agg zs ∧ ∀ j, j < (sizeT p t).getD 0 → zs[j]? = xs[off + j]?)

theorem part_of {p : Program} {t : TypeId} {ft : TypeId} {xs zs : Array Value} {off fo s : Nat} (hs : sizeT p ft = some s) (hle : fo + s ≤ (sizeT p t).getD 0) (h0 : 0 < s) (hz : ∀ j, j < (sizeT p t).getD 0 → zs[j]? = xs[off + j]?)
    {g : Bool} (hg : isAggT p ft = some g) (hex : g = false → (xs[off + fo]?).isSome = true) (w : World) : ∃ X, (part ft zs fo).run p w = .ok X w ∧ PartOf p ft xs (off + fo) X := by
  unfold part
  rw [Sem.run_bind, run_isAgg' hg]
  cases g with
  | true =>
    simp only [Result.andThen_ok, if_true, Sem.run_bind, run_sizeOf' hs, Sem.run_pure]
    refine ⟨_, rfl, .inr ⟨hg, _, rfl, fun j hj => ?_⟩⟩
    rw [hs] at hj
    simp only [Option.getD_some] at hj
    rw [Nat.add_assoc, ← hz (fo + j) (by omega), Array.getElem?_extract]
    split
    · rfl
    · rename_i hlt
      symm
      apply Array.getElem?_eq_none
      omega
  | false =>
    simp only [Result.andThen_ok, Bool.false_eq_true, if_false]
    have h1 := hz fo (by omega)
    obtain ⟨X, hX⟩ := Option.isSome_iff_exists.1 (hex rfl)
    rw [hX] at h1
    simp only [h1]
    exact ⟨X, rfl, .inl ⟨hg, hX⟩⟩

theorem leaves_sound {xs ys : Array Value} {as bs : List AV} (hx : RelL K σ as xs.toList) (hy : RelL K σ bs ys.toList) (w : World) : ∀ (n off : Nat) (t : TypeId) (ls : List (Nat × Nat)) (b : Bool) (d : Nat) (X Y : Value),
    leavesT C.P n off t = some ls → eqLeaves ls as bs = some b → PartOf C.P t xs off X → PartOf C.P t ys off Y → (Op.equalIn (d + n) t X Y).run C.P w = .ok b w := by
  have at_ : ∀ {zs : Array Value} {cs : List AV} {off : Nat} {c : AV} {Z : Value}, RelL K σ cs zs.toList → cs[off]? = some c → zs[off]? = some Z → Rel K σ c Z := fun hr h1 h2 => hr.2 _ _ _ h1 (by simpa using h2)
  intro n
  induction n with
  | zero => intro off t ls b d X Y hl; simp [leavesT] at hl
  | succ n ih =>
    intro off t ls b d X Y hl he hX hY
    unfold leavesT at hl
    have leaf : ∀ kind, ls = [(off, kind)] → isAggT C.P t = some false → ∃ x y, as[off]? = some x ∧ bs[off]? = some y ∧ eqLeaf kind x y = some b ∧ Rel K σ x X ∧ Rel K σ y Y := by
      intro kind hls hag
      subst hls
      simp only [eqLeaves] at he
      rcases hX with ⟨_, hX⟩ | ⟨hX, _⟩
      · rcases hY with ⟨_, hY⟩ | ⟨hY, _⟩
        · cases h1 : as[off]? with
          | none => simp [h1] at he
          | some x => cases h2 : bs[off]? with
            | none => simp [h1, h2] at he
            | some y =>
              simp only [h1, h2] at he
              cases h3 : eqLeaf kind x y with
              | none => simp [h3] at he
              | some b' =>
                simp only [h3] at he
                have : b' = b := by cases b' <;> simpa using he
                subst this
                exact ⟨x, y, rfl, rfl, h3, at_ hx h1 hX, at_ hy h2 hY⟩
        · rw [hag] at hY; cases hY
      · rw [hag] at hX; cases hX
    cases hu : C.P.underlying t with
    | none => simp [hu] at hl
    | some dd =>
      cases dd <;> simp only [hu] at hl <;> try (cases hl; done)
      case int k =>
        obtain ⟨x, y, -, -, h3, h4, h5⟩ := leaf 0 (by cases hl; rfl) (by simp [isAggT, hu])
        cases h4 <;> cases h5 <;> simp only [eqLeaf] at h3 <;> try (cases h3; done)
        rename_i k1 n1 k2 n2
        by_cases hk : k1 = k2
        · subst hk
          simp at h3
          rw [← h3]
          exact run_equalIn_int w (d + n) t k1 k n1 n2 hu
        · simp [hk] at h3
      case bool =>
        obtain ⟨x, y, -, -, h3, h4, h5⟩ := leaf 1 (by cases hl; rfl) (by simp [isAggT, hu])
        cases h4 <;> cases h5 <;> first
          | (simp [eqLeaf] at h3; done)
          | (simp only [eqLeaf, Option.some.injEq] at h3
             rw [← h3]
             exact run_equalIn_bool w (d + n) t _ _ hu)
      case string =>
        obtain ⟨x, y, -, -, h3, h4, h5⟩ := leaf 2 (by cases hl; rfl) (by simp [isAggT, hu])
        cases h4 <;> cases h5 <;> first
          | (simp [eqLeaf] at h3; done)
          | (simp only [eqLeaf, Option.some.injEq] at h3
             rw [← h3]
             exact run_equalIn_string w (d + n) t _ _ hu)
      case struct fs =>
        have hag : isAggT C.P t = some true := by simp [isAggT, hu]
        rcases hX with ⟨hX, _⟩ | ⟨_, xz, rfl, hxz⟩
        · rw [hag] at hX; cases hX
        rcases hY with ⟨hY, _⟩ | ⟨_, yz, rfl, hyz⟩
        · rw [hag] at hY; cases hY
        cases hst : C.P.stoodInHeld t with
        | true => simp [hst] at hl
        | false =>
          simp only [hst, Bool.false_eq_true, if_false] at hl
          have hfs : C.P.fieldsOf t = fs := by simp [Program.fieldsOf, hu]
          rw [show d + (n + 1) = (d + n) + 1 from rfl, run_equalIn_struct w (d + n) t xz yz (by rw [hfs]; exact hu) hst, hfs]
          clear hu hfs
          generalize fs.toList = l at hl
          clear hag leaf
          induction l generalizing ls b with
          | nil => simp [leavesFs] at hl; subst hl; simp [eqLeaves] at he; subst he; rfl
          | cons f l ihl =>
            simp only [leavesFs] at hl
            split at hl
            · rename_i hc
              obtain ⟨hc1, hc2, hc3⟩ := hc
              cases h1 : leavesT C.P n (off + f.offset) f.type with
              | none => simp [h1] at hl
              | some lf =>
                cases h2 : leavesFs C.P (leavesT C.P n) off ((sizeT C.P t).getD 0) l with
                | none => simp [h1, h2] at hl
                | some lr =>
                  simp only [h1, h2, Option.some.injEq] at hl
                  subst hl
                  rw [eqLeaves_append] at he
                  cases h3 : eqLeaves lf as bs with
                  | none => simp [h3] at he
                  | some b1 =>
                    simp only [h3] at he
                    cases hsz : sizeT C.P f.type with
                    | none => simp [hsz] at hc3
                    | some s =>
                      simp only [hsz, Option.getD_some] at hc2 hc3
                      cases hg : isAggT C.P f.type with
                      | none =>
                        exfalso
                        cases n with
                        | zero => simp [leavesT] at h1
                        | succ n =>
                          unfold leavesT at h1
                          unfold isAggT at hg
                          cases hu2 : C.P.underlying f.type with
                          | none => simp [hu2] at h1
                          | some dd => cases dd <;> simp [hu2] at hg
                      | some g =>
                        have hex : g = false → (as[off + f.offset]?).isSome = true ∧ (bs[off + f.offset]?).isSome = true := by
                          rintro rfl
                          have : ∃ kd, lf = [(off + f.offset, kd)] := by
                            cases n with
                            | zero => simp [leavesT] at h1
                            | succ n =>
                              unfold leavesT at h1
                              unfold isAggT at hg
                              cases hu2 : C.P.underlying f.type with
                              | none => simp [hu2] at h1
                              | some dd => cases dd <;> simp [hu2] at hg h1 <;> exact ⟨_, h1.symm⟩
                          obtain ⟨kd, rfl⟩ := this
                          simp only [eqLeaves] at h3
                          cases e1 : as[off + f.offset]? with
                          | none => simp [e1] at h3
                          | some x => cases e2 : bs[off + f.offset]? with
                            | none => simp [e1, e2] at h3
                            | some y => simp
                        have tr : ∀ {zs : Array Value} {cs : List AV}, RelL K σ cs zs.toList → (cs[off + f.offset]?).isSome = true → (zs[off + f.offset]?).isSome = true := by
                          intro zs cs hr hh
                          have h1 := hr.1
                          simp at h1 hh ⊢
                          omega
                        obtain ⟨X, p1, p2⟩ := part_of (t := t) hsz hc2 hc3 hxz hg (fun e => tr hx (hex e).1) w
                        obtain ⟨Y, q1, q2⟩ := part_of (t := t) hsz hc2 hc3 hyz hg (fun e => tr hy (hex e).2) w
                        have hr := ih (off + f.offset) f.type lf b1 d X Y h1 h3 p2 q2
                        simp only [Op.eqFields, hc1, ne_eq, not_false_eq_true, if_true, Sem.run_bind, p1, q1, hr, Result.andThen_ok]
                        cases b1 with
                        | false => simp at he; subst he; simp
                        | true =>
                          simp only [cond_true] at he
                          simpa using ihl lr b he h2
            · cases hl
end
end Go.Proofs.YtnibcojenlijgaaGreatDoor.Ev
