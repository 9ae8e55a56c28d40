/- Freezing, calls, regions. No condition. -/
import Derived.Test.YtnibcojenlijgaaGreatDoorEv11
set_option linter.unusedVariables false
set_option linter.unusedSimpArgs false
namespace Go.Proofs.YtnibcojenlijgaaGreatDoor.Ev
open Go Go.RowKit
section
variable {C : Cfg} {K : Kn} {σ : Sg} {e : Env} {h : Hp} {w : World} {a : Act}

theorem mapO_some {α β : Type} {f : α → Option β} : ∀ {l : List α} {r : List β}, mapO f l = some r → r.length = l.length ∧ ∀ (i : Nat) x, l[i]? = some x → ∃ y, r[i]? = some y ∧ f x = some y := by
  intro l
  induction l with
  | nil => intro r h; simp [mapO] at h; subst h; simp
  | cons x l ih =>
    intro r h
    simp only [mapO] at h
    cases h1 : f x with
    | none => simp [h1] at h
    | some y => cases h2 : mapO f l with
      | none => simp [h1, h2] at h
      | some ys =>
        simp only [h1, h2, Option.some.injEq] at h
        subst h
        obtain ⟨k1, k2⟩ := ih h2
        refine ⟨by simp [k1], fun i z hz => ?_⟩
        cases i with
        | zero => simp at hz; subst hz; exact ⟨y, rfl, h1⟩
        | succ i => exact k2 i z (by simpa using hz)

/-- What is read now is data. -/
theorem frz_rel (hS : Sim K σ h w) {Kt : Kn} (hKK : KLe K Kt) (hown : ∀ l B x, h.get l = some B → σ l = some x → ∀ o v, w.cell? ⟨x.b, o, none⟩ = some v → v.oneCell' = true → Kt x.b o = some v) :
    ∀ (n : Nat) (v v' : AV) (V : Value), Rel K σ v V → frz h n v = some v' → Rel Kt (fun _ => none) v' V := by
  intro n
  induction n with
  | zero => intro v v' V _ h; simp [frz] at h
  | succ n ih =>
    intro v v' V hr hf
    simp only [frz] at hf
    cases hfree : refFree v with
    | true =>
      simp only [hfree, cond_true, Option.some.injEq] at hf
      subst hf
      exact (hr.free hfree _).mono hKK (SLe.refl _)
    | false =>
      simp only [hfree, cond_false] at hf
      have list : ∀ {cs cs' : List AV} {vs : List Value}, RelL K σ cs vs → mapO (frz h n) cs = some cs' → RelL Kt (fun _ => none) cs' vs := fun {cs cs' vs} hl hm => by
        obtain ⟨k1, k2⟩ := mapO_some hm
        refine ⟨by rw [hl.1, k1], fun i a v h1 h2 => ?_⟩
        have hi : i < cs.length := by rw [← k1]; exact (List.getElem?_eq_some_iff.1 h1).1
        obtain ⟨y, g1, g2⟩ := k2 i cs[i] (by simp [hi])
        rw [h1] at g1; cases g1
        exact ih cs[i] a v (hl.2 i _ v (by simp [hi]) h2) g2
      cases hr <;> simp only [reduceCtorEq] at hf
      case agg cs vs hl hr =>
        cases hm : mapO (frz h n) cs with
        | none => simp [hm] at hf
        | some cs' => simp only [hm, Option.some.injEq] at hf; subst hf; exact Rel.aggL.2 (list (Rel.aggL.1 (.agg hl hr)) hm)
      case tup cs vs hl hr =>
        cases hm : mapO (frz h n) cs with
        | none => simp [hm] at hf
        | some cs' => simp only [hm, Option.some.injEq] at hf; subst hf; exact Rel.tupL.2 (list (Rel.tupL.1 (.tup hl hr)) hm)
      case fn f a c a' c' ha hc h1 h2 =>
        cases hm : mapO (frz h n) a with
        | none => simp [hm] at hf
        | some as => cases hm2 : mapO (frz h n) c with
          | none => simp [hm, hm2] at hf
          | some cs' =>
            simp only [hm, hm2, Option.some.injEq] at hf; subst hf
            have r1 := list (cs := a) (vs := a'.toList) ⟨by simpa using ha, fun i a v g1 g2 => h1 i a v g1 (by simpa using g2)⟩ hm
            have r2 := list (cs := c) (vs := c'.toList) ⟨by simpa using hc, fun i a v g1 g2 => h2 i a v g1 (by simpa using g2)⟩ hm2
            exact .fn (by simpa using r1.1) (by simpa using r2.1) (fun i x v g1 g2 => r1.2 i x v g1 (by simpa using g2)) fun i x v g1 g2 => r2.2 i x v g1 (by simpa using g2)
      case sl l off k c z x rc _ _ _ _ _ =>
        have hσ : σ l = some x := by assumption
        have hz : x.sz = z := by assumption
        have hcn : k ≤ rc := by assumption
        cases hg : h.get l with
        | none => simp [hg] at hf
        | some B =>
          simp only [hg] at hf
          cases hb : Nat.ble (off + k) B.es.length with
          | false => simp [hb] at hf
          | true =>
            simp only [hb, cond_true] at hf
            have hle := Nat.le_of_ble_eq_true hb
            obtain ⟨y, cc, t', h1, h2, h3, h4, h5, h6, h7, h8⟩ := hS.bk l B hg
            rw [hσ] at h1; cases h1
            have hget : ∀ i, i < k → ((B.es.drop off).take k)[i]? = B.es[off + i]? := fun i hi => by rw [List.getElem?_take, if_pos hi, List.getElem?_drop]
            have hlen : ((B.es.drop off).take k).length = k := by simp; omega
            have main : ∀ es : List (List AV), es.length = k → (∀ (i : Nat) e', es[i]? = some e' → ∃ e0, B.es[off + i]? = some e0 ∧ e'.length = e0.length ∧ ∀ (j : Nat) a', e'[j]? = some a' → ∃ a0, e0[j]? = some a0 ∧ ∀ u, Rel K σ a0 u → Rel Kt (fun _ => none) a' u) →
                Rel Kt (fun _ => none) (.rs es) (.slice (some ⟨x.b, x.base + off * z, none⟩) k rc) := by
              intro es he hes
              by_cases hne : es = []
              · subst hne; simp at he; subst he; exact .rs0
              · rw [← he]
                refine Rel.rs (fun i j => (cc[x.base + (off + i) * B.sz + j]?).getD undef) hne (by omega) (sz := B.sz) (fun e' he' => ?_) (fun i j hi hj => ?_) fun i j e' a' hi hj => ?_
                · obtain ⟨i, hi⟩ := List.mem_iff_getElem?.1 he'
                  obtain ⟨e0, g1, g2, _⟩ := hes i e' hi
                  rw [g2]; exact h6 e0 (List.mem_of_getElem? g1)
                · obtain ⟨e0, g1, _, _⟩ := hes i es[i] (by simp [hi])
                  have hj' : j < e0.length := by rw [h6 e0 (List.mem_of_getElem? g1)]; exact hj
                  obtain ⟨v, f1, f2, _⟩ := h7 (off + i) j e0 e0[j] g1 (by simp [hj'])
                  rw [f1, ← hz, h2, show x.base + off * B.sz + i * B.sz + j = x.base + (off + i) * B.sz + j by rw [Nat.add_mul]; omega]
                  exact hown l B x hg hσ _ v (by simp [World.cell?, h3, f1]) f2
                · obtain ⟨e0, g1, _, g3⟩ := hes i e' hi
                  obtain ⟨a0, g4, g5⟩ := g3 j a' hj
                  obtain ⟨v, f1, f2, f3⟩ := h7 (off + i) j e0 a0 g1 g4
                  rw [f1]
                  exact g5 v f3
            cases hfl : refFreeLL ((B.es.drop off).take k) with
            | true =>
              simp only [hfl, cond_true, Option.some.injEq] at hf
              subst hf
              refine main _ hlen fun i e' hi => ?_
              have hik : i < k := by rw [← hlen]; exact (List.getElem?_eq_some_iff.1 hi).1
              have hfe := refFreeLL_mem hfl i e' hi
              rw [hget i hik] at hi
              exact ⟨e', hi, rfl, fun j a' hj => ⟨a', hj, fun u hu => (hu.free (refFreeL_mem hfe j a' hj) _).mono hKK (SLe.refl _)⟩⟩
            | false =>
              simp only [hfl, cond_false] at hf
              cases hm : mapO (mapO (frz h n)) ((B.es.drop off).take k) with
              | none => simp [hm] at hf
              | some es =>
                simp only [hm, Option.some.injEq] at hf
                subst hf
                obtain ⟨m1, m2⟩ := mapO_some hm
                refine main es (by rw [m1, hlen]) fun i e' hi => ?_
                have hik : i < k := by rw [← hlen, ← m1]; exact (List.getElem?_eq_some_iff.1 hi).1
                obtain ⟨e1, g1, g2⟩ := m2 i _ (List.getElem?_eq_getElem (show i < ((B.es.drop off).take k).length by omega))
                rw [hi] at g1; cases g1
                obtain ⟨q1, q2⟩ := mapO_some g2
                refine ⟨_, by rw [← hget i hik]; exact List.getElem?_eq_getElem (by omega), q1, fun j a' hj => ?_⟩
                have hjl : j < (((B.es.drop off).take k)[i]'(by omega)).length := by rw [← q1]; exact (List.getElem?_eq_some_iff.1 hj).1
                obtain ⟨y, r1, r2⟩ := q2 j _ (List.getElem?_eq_getElem hjl)
                rw [hj] at r1; cases r1
                exact ⟨_, List.getElem?_eq_getElem hjl, fun u hu => ih _ _ u hu r2⟩
      case ptr l i off x hσ =>
        cases hg : h.get l with
        | none => simp [hg] at hf
        | some B =>
          simp only [hg] at hf
          cases hi : B.es[i]? with
          | none => simp [hi] at hf
          | some cs =>
            simp only [hi] at hf
            cases hm : mapO (frz h n) cs with
            | none => simp [hm] at hf
            | some cs' =>
              simp only [hm, Option.some.injEq] at hf
              subst hf
              obtain ⟨vs, g1, g2, g3⟩ := hS.elem hg hσ hi
              have hl := list g1 hm
              have hval : ∀ j, j < cs'.length → vs[j]? = some ((vs[j]?).getD undef) := fun j hj => by
                have : j < vs.length := by rw [hl.1]; exact hj
                simp [this]
              refine Rel.rp (fun j => (vs[j]?).getD undef) (fun j hj => ?_) fun j a' ha' => ?_
              · exact hown l B x hg hσ _ _ (g3 j _ (hval j hj)) (g2 _ (List.mem_of_getElem? (hval j hj)))
              · have hj := (List.getElem?_eq_some_iff.1 ha').1
                exact hl.2 j a' _ ha' (hval j hj)

abbrev noSg : Sg := fun _ => none
abbrev noHp : Hp := ⟨[], 0⟩

/-- What a call of a function comes to, whatever world it starts in. -/
def Sound (C : Cfg) (f : FuncId) (args : List AV) (r : AV) : Prop :=
  (∃ fn, C.P.funcs[f]? = some fn ∧ fn.body.isSome = true ∧ (fn.name == "runtime.NumGoroutine") = false) ∧
  ∀ K w (vargs : Array Value), Sim K noSg noHp w → GlobOK C K → RelL K noSg args vargs.toList →
    Calls C.P f vargs w fun e w' => ∃ V K', e = .returned V ∧ Rel K' noSg r V ∧ Sim K' noSg noHp w' ∧ Ext K noSg noHp w K' noSg noHp w'
def OrcOK (C : Cfg) (orc : Orc) : Prop := ∀ f args r, orc f args = some r → Sound C f args r

theorem Sim.none_of (hk : ∀ b o v, K b o = some v → w.cell? ⟨b, o, none⟩ = some v ∧ v.oneCell' = true) : Sim K noSg noHp w :=
  ⟨hk, fun l B h => by simp [Hp.get, alook] at h, fun l l' B B' x x' h => by simp [Hp.get, alook] at h⟩
theorem no_own (b : Nat) : ¬ Own noSg noHp b := fun ⟨l, B, x, h, _⟩ => by simp [Hp.get, alook] at h

/-- The memory as it is. -/
def snap (w : World) : Kn := fun b o => match w.cell? ⟨b, o, none⟩ with | some v => if v.oneCell' = true then some v else none | none => none
theorem snap_some {w : World} {b o : Nat} {v : Value} (h : snap w b o = some v) : w.cell? ⟨b, o, none⟩ = some v ∧ v.oneCell' = true := by
  unfold snap at h
  cases hc : w.cell? ⟨b, o, none⟩ with
  | none => simp [hc] at h
  | some u =>
    simp only [hc] at h
    split at h
    · cases h; exact ⟨rfl, by assumption⟩
    · cases h
theorem snap_of {w : World} {b o : Nat} {v : Value} (h : w.cell? ⟨b, o, none⟩ = some v) (h1 : v.oneCell' = true) : snap w b o = some v := by simp [snap, h, h1]

def CallPost (C : Cfg) (orc : Orc) (K : Kn) (σ : Sg) (h : Hp) (w : World) (r : AV) (w' : World) (V : Value) : Prop :=
  ∃ K', Rel K' σ r V ∧ Sim K' σ h w' ∧ Ext K σ h w K' σ h w'

theorem call_calls {orc : Orc} (hO : OrcOK C orc) (hS : Sim K σ h w) (hG : GlobOK C K) {fv : AV} {FV : Value} (hf : Rel K σ fv FV) {xs : List AV} {vs : Array Value} (hx : RelL K σ xs vs.toList) {r : AV} (hc : callA orc h fv xs = some r) (t : TypeId) :
    ∃ f args, (do let d ← Deferred.ofValue FV vs; invoke d.target d.args).run C.P w = .ok (.enter f args) w ∧ Calls C.P f args w fun e w' => ∃ V, e = .returned V ∧ CallPost C orc K σ h w r w' V := by
  cases hf <;> simp only [callA, reduceCtorEq] at hc
  case fn f a c a' c' ha hcl h1 h2 =>
    have hargs : RelL K σ (a ++ xs ++ c) (a' ++ vs ++ c').toList := by
      simp only [Array.toList_append]
      exact (RelL.append ⟨by simpa using ha, fun i a v g1 g2 => h1 i a v g1 (by simpa using g2)⟩ hx).append ⟨by simpa using hcl, fun i a v g1 g2 => h2 i a v g1 (by simpa using g2)⟩
    have hrun : ∀ fn, C.P.funcs[f]? = some fn → fn.body.isSome = true → (fn.name == "runtime.NumGoroutine") = false → (do let d ← Deferred.ofValue (.func (.func f) a' c') vs; invoke d.target d.args : Sem Next).run C.P w = .ok (.enter f (a' ++ vs ++ c')) w := by
      intro fn e1 e2 e3
      have e2' : ¬ fn.body = none := by cases hb : fn.body <;> simp_all
      have e3' : ¬ fn.name = "runtime.NumGoroutine" := by simpa using e3
      simp [Deferred.ofValue, invoke, callFunc, e1, e3', e2']
    cases hfree : refFreeL (a ++ xs ++ c) with
    | true =>
      simp only [hfree, cond_true] at hc
      obtain ⟨⟨fn, e1, e2, e3⟩, hcall⟩ := hO _ _ _ hc
      refine ⟨f, _, hrun fn e1 e2 e3, (hcall K w _ (Sim.none_of hS.kn) hG (hargs.free hfree _)).mono ?_⟩
      rintro e w' ⟨V, K', rfl, g1, g2, g3⟩
      have keep : ∀ b, b < w.heap.size → w'.heap[b]? = w.heap[b]? := fun b hb => g3.keep b hb (no_own b)
      refine ⟨V, rfl, K', g1.mono (KLe.refl _) (fun _ _ h => by cases h), ⟨g2.kn, fun l B hl => ?_, hS.dj⟩, ⟨g3.kle, SLe.refl _, g3.size, fun b hb _ => keep b hb, fun b hb _ => g3.kold b hb (no_own b), fun b hb => .inr hb, g3.os, g3.tape, g3.output, g3.frozen⟩⟩
      obtain ⟨x, c, t, k1, k2, k3, k4, k5, k6, k7, k8⟩ := hS.bk l B hl
      exact ⟨x, c, t, k1, k2, (keep _ (heap_lt k3)).trans k3, k4, k5, k6, fun i j e a q1 q2 => by
        obtain ⟨v, q3, q4, q5⟩ := k7 i j e a q1 q2
        exact ⟨v, q3, q4, q5.mono g3.kle (SLe.refl _)⟩, fun o => by rw [g3.kold x.b (heap_lt k3) (no_own _)]; exact k8 o⟩
    | false =>
      simp only [hfree, cond_false] at hc
      unfold frzL at hc
      simp only [hfree, cond_false] at hc
      cases hz : mapO (frz h 6) (a ++ xs ++ c) with
      | none => rw [hz] at hc; cases hc
      | some ys =>
        simp only [hz] at hc
        cases ho : orc f ys with
        | none => simp [ho] at hc
        | some q =>
          simp only [ho] at hc
          cases hfl : flat q with
          | false => simp [hfl] at hc
          | true =>
            simp only [hfl, cond_true, Option.some.injEq] at hc
            subst hc
            obtain ⟨⟨fn, e1, e2, e3⟩, hcall⟩ := hO _ _ _ ho
            have hle : KLe K (snap w) := fun b o v hv => snap_of (hS.kn b o v hv).1 (hS.kn b o v hv).2
            have hys : RelL (snap w) noSg ys (a' ++ vs ++ c').toList := by
              obtain ⟨m1, m2⟩ := mapO_some hz
              refine ⟨by rw [hargs.1, m1], fun i p v g1 g2 => ?_⟩
              have hi : i < (a ++ xs ++ c).length := by rw [← m1]; exact (List.getElem?_eq_some_iff.1 g1).1
              obtain ⟨y, q1, q2⟩ := m2 i _ (List.getElem?_eq_getElem hi)
              rw [g1] at q1; cases q1
              exact frz_rel hS hle (fun l B x _ _ o v hv h1 => snap_of hv h1) 6 _ _ v (hargs.2 i _ v (List.getElem?_eq_getElem hi) g2) q2
            refine ⟨f, _, hrun fn e1 e2 e3, (hcall (snap w) w _ (Sim.none_of fun b o v hv => snap_some hv) (hG.mono hle) hys).mono ?_⟩
            rintro e w' ⟨V, K', rfl, g1, g2, g3⟩
            have keep : ∀ b, b < w.heap.size → w'.heap[b]? = w.heap[b]? := fun b hb => g3.keep b hb (no_own b)
            exact ⟨V, rfl, K, g1.flat hfl _ _, hS.grow keep, ⟨KLe.refl _, SLe.refl _, g3.size, fun b hb _ => keep b hb, fun _ _ _ _ => rfl, fun b hb => .inr hb, g3.os, g3.tape, g3.output, g3.frozen⟩⟩
end
end Go.Proofs.YtnibcojenlijgaaGreatDoor.Ev
