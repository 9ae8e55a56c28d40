/- The evaluator is sound. No condition. -/
import Derived.Test.YtnibcojenlijgaaGreatDoorEv15
set_option linter.unusedVariables false
set_option linter.unusedSimpArgs false
namespace Go.Proofs.YtnibcojenlijgaaGreatDoor.Ev
open Go Go.RowKit
section
variable {C : Cfg}

def resF (tmps : Array Value) : ResultVar → Sem Value
  | .tmp t => pure (tmps.getD t undef)
  | .cell x t => do loadVar t (← asAddr (tmps.getD x undef))
theorem results_eq (fn : Func) (tmps : Array Value) : results fn tmps = (do
    let vs ← fn.results.mapM (resF tmps)
    pure (if h : vs.size = 1 then vs[0] else .tuple vs)) := by
  unfold results
  congr 1

theorem resA_sound {K : Kn} {σ : Sg} {s : St} {a : Act} {w : World} (hS : Sim K σ s.h w) (hE : EnvR K σ s.env a.tmps) : ∀ (l : List ResultVar) (res : List RRes) (vs : List AV), mapO (rRes C.P) l = some res → mapO (resA s) res = some vs →
    ∃ Vs : List Value, (l.mapM (resF a.tmps)).run C.P w = .ok Vs w ∧ RelL K σ vs Vs := by
  intro l
  induction l with
  | nil => intro res vs h1 h2; simp [mapO] at h1; subst h1; simp [mapO] at h2; subst h2; exact ⟨[], rfl, .nil⟩
  | cons x l ih =>
    intro res vs h1 h2
    simp only [mapO] at h1
    cases hx : rRes C.P x with
    | none => simp [hx] at h1
    | some r => cases hl : mapO (rRes C.P) l with
      | none => simp [hx, hl] at h1
      | some rs =>
        simp only [hx, hl, Option.some.injEq] at h1
        subst h1
        simp only [mapO] at h2
        cases hv : resA s r with
        | none => simp [hv] at h2
        | some v => cases hvs : mapO (resA s) rs with
          | none => simp [hv, hvs] at h2
          | some us =>
            simp only [hv, hvs, Option.some.injEq] at h2
            subst h2
            obtain ⟨Vs, g1, g2⟩ := ih rs us hl hvs
            cases x with
            | tmp t =>
              simp only [rRes, Option.some.injEq] at hx
              subst hx
              simp only [resA, Option.some.injEq] at hv
              subst hv
              refine ⟨a.tmps.getD t undef :: Vs, ?_, .cons (hE t) g2⟩
              rw [List.mapM_cons, Sem.run_bind]
              simp only [resF, Sem.run_pure, Result.andThen_ok, Sem.run_bind, g1]
            | cell q t =>
              simp only [rRes] at hx
              cases hA : isAggT C.P t with
              | none => simp [hA] at hx
              | some g => cases hsz : sizeT C.P t with
                | none => simp [hA, hsz] at hx
                | some n =>
                  simp only [hA, hsz, Option.some.injEq] at hx
                  subst hx
                  simp only [resA] at hv
                  obtain ⟨V, ad, e1, e2, e3⟩ := loadAt_sound hS hA hsz (hE q) hv
                  refine ⟨V :: Vs, ?_, .cons e3 g2⟩
                  rw [List.mapM_cons, Sem.run_bind]
                  simp only [resF, e1, asAddr, Sem.run_bind, Sem.run_pure, Result.andThen_ok, e2, g1]

theorem result_sound {K : Kn} {σ : Sg} {s : St} {a : Act} {w : World} (hS : Sim K σ s.h w) (hE : EnvR K σ s.env a.tmps) {fn : Func} {res : List RRes} (hr : mapO (rRes C.P) fn.results.toList = some res) {v : AV} (hv : resultA s res = some v) :
    ∃ V, (results fn a.tmps).run C.P w = .ok V w ∧ Rel K σ v V := by
  have go : ∀ vs, mapO (resA s) res = some vs → ∃ Vs : List Value, (fn.results.mapM (resF a.tmps)).run C.P w = .ok Vs.toArray w ∧ RelL K σ vs Vs := fun vs hvs => by
    obtain ⟨Vs, g1, g2⟩ := resA_sound hS hE fn.results.toList res vs hr hvs
    refine ⟨Vs, ?_, g2⟩
    rw [Array.mapM_eq_mapM_toList]
    simp only [map_eq_pure_bind, Sem.run_bind, g1, Result.andThen_ok, Sem.run_pure]
  have fin : ∀ (vs : List AV) (Vs : List Value), (fn.results.mapM (resF a.tmps)).run C.P w = .ok (List.toArray Vs) w → (results fn a.tmps).run C.P w = .ok (if h : Vs.toArray.size = 1 then Vs.toArray[0] else .tuple Vs.toArray) w := fun vs Vs h => by
    rw [results_eq, Sem.run_bind, h]
    rfl
  cases res with
  | nil =>
    simp [resultA, mapO] at hv
    obtain ⟨Vs, g1, g2⟩ := go [] rfl
    have : Vs = [] := List.eq_nil_of_length_eq_zero (by rw [g2.1]; rfl)
    subst this
    exact ⟨_, fin [] [] g1, by subst hv; exact Rel.tupL.2 .nil⟩
  | cons r rest =>
    cases rest with
    | nil =>
      simp only [resultA] at hv
      obtain ⟨Vs, g1, g2⟩ := go [v] (by simp [mapO, hv])
      have hl := g2.1
      cases Vs with
      | nil => simp at hl
      | cons V Vs =>
        cases Vs with
        | cons => simp at hl
        | nil => exact ⟨V, fin [v] [V] g1, g2.2 0 v V rfl rfl⟩
    | cons r2 rest =>
      simp only [resultA] at hv
      cases hm : mapO (resA s) (r :: r2 :: rest) with
      | none => rw [hm] at hv; cases hv
      | some vs =>
        rw [hm] at hv
        simp only [Option.some.injEq] at hv
        subst hv
        obtain ⟨Vs, g1, g2⟩ := go vs hm
        have hl := g2.1
        have hl2 := (mapO_some hm).1
        simp only [List.length_cons] at hl2
        refine ⟨_, fin vs Vs g1, ?_⟩
        rw [dif_neg (by simp; omega)]
        exact Rel.tupL.2 (by simpa using g2)

/-- The table is the program's. -/
def TabOK (C : Cfg) (R : FuncId → Option RFn) : Prop := ∀ f rf, R f = some rf → ∃ fn, C.P.funcs[f]? = some fn ∧ rFunc C f fn = some rf ∧ wfR rf.body = true

theorem evF_sound {R : FuncId → Option RFn} (hR : TabOK C R) (hD : ∀ orc, OrcOK C orc → DrawOK C orc) : ∀ n, OrcOK C (evF R n) := by
  intro n
  induction n with
  | zero => intro f args r h; simp [evF] at h
  | succ n ih =>
    intro f args r h
    simp only [evF] at h
    cases hf : R f with
    | none => simp [hf] at h
    | some rf =>
      simp only [hf] at h
      cases hlen : Nat.beq args.length rf.np with
      | false => simp [hlen] at h
      | true =>
        simp only [hlen, cond_true] at h
        obtain ⟨fn, hfn, hrf, hwf⟩ := hR f rf hf
        unfold rFunc at hrf
        cases hb : fn.body with
        | none => simp [hb] at hrf
        | some c =>
          simp only [hb] at hrf
          cases hname : (fn.name == "runtime.NumGoroutine") with
          | true => simp [hname] at hrf
          | false =>
            simp only [hname, Bool.false_eq_true, if_false] at hrf
            cases hc : rCode C f fn.ntmps c with
            | none => simp [hc] at hrf
            | some rc => cases hres : mapO (rRes C.P) fn.results.toList with
              | none => simp [hc, hres] at hrf
              | some res =>
                simp only [hc, hres, Option.some.injEq] at hrf
                subst hrf
                refine ⟨⟨fn, hfn, by simp [hb], hname⟩, fun K w vargs hS hG hargs => ?_⟩
                refine calls_of_wp hfn hb ?_
                unfold finish at h
                have hgood : Good C fn.ntmps K noSg ⟨initEnv args, ⟨[], 0⟩⟩ { tmps := vargs ++ Array.replicate (fn.ntmps - vargs.size) undef, defers := [] } w := by
                  refine ⟨hS, fun t => ?_, hG, by simp; omega, rfl, fun _ _ => rfl⟩
                  have hl : vargs.size = args.length := by have := hargs.1; simpa using this
                  simp only [initEnv]
                  by_cases ht : t < args.length
                  · have h1 : args[t]? = some args[t] := by simp [ht]
                    have h2 : vargs.toList[t]? = some (vargs[t]'(by omega)) := by simp [hl, ht]
                    rw [h1]
                    have : (vargs ++ Array.replicate (fn.ntmps - vargs.size) undef).getD t undef = vargs[t]'(by omega) := by
                      simp [Array.getD_eq_getD_getElem?, Array.getElem?_append, show t < vargs.size by omega]
                    rw [this]
                    exact hargs.2 t _ _ h1 h2
                  · have h1 : args[t]? = none := by simp; omega
                    rw [h1]
                    have : (vargs ++ Array.replicate (fn.ntmps - vargs.size) undef).getD t undef = undef := by
                      simp only [Array.getD_eq_getD_getElem?, Array.getElem?_append, show ¬ t < vargs.size by omega, if_false, Array.getElem?_replicate]
                      split <;> rfl
                    rw [this]
                    exact Rel.tupL.2 .nil
                have fin : ∀ (s' : St) v, resultA s' res = some v → frz s'.h 6 v = some r → ∀ K' σ' a' w', Good C fn.ntmps K' σ' s' a' w' → ExtW K noSg noHp w K' σ' s'.h w' →
                    a'.defers = [] ∧ ∃ V, (results fn a'.tmps).run C.P w' = .ok V w' ∧ ∃ V2 K2, Ending.returned V = .returned V2 ∧ Rel K2 noSg r V2 ∧ Sim K2 noSg noHp w' ∧ Ext K noSg noHp w K2 noSg noHp w' := by
                  intro s' v hv hfz K' σ' a' w' g1 g2
                  obtain ⟨V, e1, e2⟩ := result_sound g1.sim g1.env hres hv
                  let Kt : Kn := fun b o => if b < w.heap.size then K' b o else snap w' b o
                  have hle : KLe K' Kt := fun b o u hu => by
                    by_cases hb : b < w.heap.size
                    · simp [Kt, hb, hu]
                    · simp only [Kt, hb, if_false]; exact snap_of (g1.sim.kn b o u hu).1 (g1.sim.kn b o u hu).2
                  have hown : ∀ l B x, s'.h.get l = some B → σ' l = some x → ∀ o u, w'.cell? ⟨x.b, o, none⟩ = some u → u.oneCell' = true → Kt x.b o = some u := fun l B x q1 q2 o u q3 q4 => by
                    have : ¬ x.b < w.heap.size := by
                      rcases g2.own x.b ⟨l, B, x, q1, q2, rfl⟩ with h | h
                      · omega
                      · exact absurd h (no_own _)
                    simp only [Kt, this, if_false]
                    exact snap_of q3 q4
                  refine ⟨g1.defers, V, e1, V, Kt, rfl, frz_rel g1.sim hle hown 6 v r V e2 hfz, Sim.none_of fun b o u hu => ?_, g2.kle.trans hle, SLe.refl _, g2.size, fun b hb _ => g2.keep b hb (no_own b), fun b hb _ o => ?_, fun b hb => absurd hb (no_own b), g2.os, g2.tape, g2.output, g2.frozen⟩
                  · by_cases hb : b < w.heap.size
                    · simp only [Kt, hb, if_true] at hu; exact g1.sim.kn b o u hu
                    · simp only [Kt, hb, if_false] at hu; exact snap_some hu
                  · simp only [Kt, hb, if_true]; exact g2.kold b hb (no_own b) o
                cases he : evC (evF R n) n rc ⟨initEnv args, ⟨[], 0⟩⟩ with
                | none => simp [he] at h
                | some p =>
                  obtain ⟨ex, s'⟩ := p
                  have hh : (ex = .nrm ∨ ex = .ret) ∧ (match resultA s' res with | some v => frz s'.h 6 v | none => none) = some r := by
                    rw [he] at h
                    cases ex with
                    | nrm => exact ⟨.inl rfl, h⟩
                    | ret => exact ⟨.inr rfl, h⟩
                    | exit id => simp at h
                  obtain ⟨hex, hfr⟩ := hh
                  cases hv : resultA s' res with
                  | none => simp [hv] at hfr
                  | some v =>
                    simp only [hv] at hfr
                    refine evC_sound ih (hD _ ih) c rc hc hwf _ s' ex K noSg _ w hgood he _ fun K' σ' a' w' g1 g2 _ _ => ?_
                    have := fin s' v hv hfr K' σ' a' w' g1 g2
                    rcases hex with rfl | rfl <;> exact this
end
end Go.Proofs.YtnibcojenlijgaaGreatDoor.Ev
