/- The evaluator: more fuel gives the same answer. No condition. -/
import Derived.Test.YtnibcojenlijgaaGreatDoorEv21
set_option linter.unusedVariables false
set_option linter.unusedSimpArgs false
namespace Go.Proofs.YtnibcojenlijgaaGreatDoor.Ev
open Go Go.RowKit

def OLe (o o' : Orc) : Prop := ∀ f xs r, o f xs = some r → o' f xs = some r

theorem callA_le {o o' : Orc} (hle : OLe o o') {h : Hp} {f : AV} {xs : List AV} {r : AV} (hc : callA o h f xs = some r) : callA o' h f xs = some r := by
  unfold callA at hc ⊢
  split at hc
  · rename_i f a c
    cases hr : refFreeL (a ++ xs ++ c) with
    | true => rw [hr] at hc; exact hle _ _ _ hc
    | false =>
      rw [hr] at hc
      simp only [cond_false] at hc ⊢
      cases hf : frzL h (a ++ xs ++ c) with
      | none => rw [hf] at hc; cases hc
      | some ys =>
        rw [hf] at hc
        simp only at hc ⊢
        cases ho : o f ys with
        | none => rw [ho] at hc; cases hc
        | some r' => rw [ho] at hc; rw [hle _ _ _ ho]; exact hc
  · cases hc

theorem run_le {o o' : Orc} (hle : OLe o o') {e : Env} {h : Hp} {fr : Nat} {r : RX} {p : AV × Hp} (hr : r.run o e h fr = some p) : r.run o' e h fr = some p := by
  cases r with
  | op r => exact hr
  | call f xs =>
    simp only [RX.run] at hr ⊢
    obtain ⟨v, h'⟩ := p
    obtain ⟨e1, e2⟩ := withH_some hr
    rw [callA_le hle e1, e2]
    rfl
theorem ev1_le {o o' : Orc} (hle : OLe o o') {fr : Nat} {r : ROp} {s s' : St} (h : ev1 o fr r s = some s') : ev1 o' fr r s = some s' := by
  unfold ev1 at h ⊢
  split at h
  · cases hr : r.op.run o s.env s.h fr with
    | none => rw [hr] at h; cases h
    | some p => rw [hr] at h; rw [run_le hle hr]; exact h
  · exact h
  · cases h
theorem evOps_le {o o' : Orc} (hle : OLe o o') : ∀ {os : List ROp} {fr : Nat} {s s' : St}, evOps o fr os s = some s' → evOps o' fr os s = some s' := by
  intro os
  induction os with
  | nil => intro fr s s' h; exact h
  | cons x os ih =>
    intro fr s s' h
    simp only [evOps] at h ⊢
    cases h1 : ev1 o fr x s with
    | none => rw [h1] at h; cases h
    | some s1 => rw [h1] at h; rw [ev1_le hle h1]; exact ih h
theorem iter_le {b b' : St → Option (Ex × St)} (hb : ∀ s r, b s = some r → b' s = some r) {hd : St → St} : ∀ {n m : Nat} {s : St} {r : Ex × St}, n ≤ m → iter b hd n s = some r → iter b' hd m s = some r := by
  intro n
  induction n with
  | zero => intro m s r _ h; cases h
  | succ n ih =>
    intro m s r hm h
    obtain ⟨m, rfl⟩ : ∃ k, m = k + 1 := ⟨m - 1, by omega⟩
    simp only [iter] at h ⊢
    cases h1 : b (hd s) with
    | none => rw [h1] at h; cases h
    | some p =>
      rw [hb _ _ h1]
      rw [h1] at h
      obtain ⟨e, s'⟩ := p
      cases e with
      | nrm => exact ih (by omega) h
      | exit id => exact h
      | ret => exact h
theorem evC_le {o o' : Orc} (hle : OLe o o') {n m : Nat} (hn : n ≤ m) : ∀ (c : RC) (s : St) (r : Ex × St), evC o n c s = some r → evC o' m c s = some r := by
  intro c
  induction c with
  | skip => intro s r h; exact h
  | ops os =>
    intro s r h
    simp only [evC] at h ⊢
    cases h1 : evOps o s.h.next os s with
    | none => rw [h1] at h; cases h
    | some s1 => rw [h1] at h; rw [evOps_le hle h1]; exact h
  | dops os ps =>
    intro s r h
    simp only [evC] at h ⊢
    cases hp : pairsOK s.h.next s.env os ps with
    | false => rw [hp] at h; cases h
    | true =>
      rw [hp] at h
      simp only [cond_true] at h ⊢
      cases h1 : evOps o s.h.next os s with
      | none => rw [h1] at h; cases h
      | some s1 => rw [h1] at h; rw [evOps_le hle h1]; exact h
  | seq a b iha ihb =>
    intro s r h
    simp only [evC] at h ⊢
    cases h1 : evC o n a s with
    | none => rw [h1] at h; cases h
    | some p =>
      rw [iha _ _ h1]
      rw [h1] at h
      obtain ⟨e, s'⟩ := p
      cases e with
      | nrm => exact ihb _ _ h
      | exit id => exact h
      | ret => exact h
  | cond c t e iht ihe =>
    intro s r h
    simp only [evC] at h ⊢
    split at h
    · rename_i b hb
      cases b with
      | true => exact iht _ _ h
      | false => exact ihe _ _ h
    · cases h
  | block id b ih =>
    intro s r h
    simp only [evC] at h ⊢
    cases h1 : evC o n b s with
    | none => rw [h1] at h; cases h
    | some p => rw [ih _ _ h1]; rw [h1] at h; exact h
  | loop ws live b ih =>
    intro s r h
    exact iter_le (fun s' r' h' => ih s' r' h') hn h
  | rawloop b ih =>
    intro s r h
    exact iter_le (fun s' r' h' => ih s' r' h') hn h
  | exit id => intro s r h; exact h
  | ret => intro s r h; exact h

theorem evF_le1 {R : FuncId → Option RFn} : ∀ n, OLe (evF R n) (evF R (n + 1)) := by
  intro n
  induction n with
  | zero => intro f xs r h; cases h
  | succ n ih =>
    intro f xs r h
    rw [evF] at h ⊢
    cases hf : R f with
    | none => rw [hf] at h; cases h
    | some fn =>
      rw [hf] at h
      simp only at h ⊢
      cases hl : Nat.beq xs.length fn.np with
      | false => rw [hl] at h; cases h
      | true =>
        rw [hl] at h
        simp only [cond_true] at h ⊢
        cases hc : evC (evF R n) n fn.body ⟨initEnv xs, ⟨[], 0⟩⟩ with
        | none => rw [hc] at h; cases h
        | some p => rw [hc] at h; rw [evC_le ih (Nat.le_succ n) _ _ _ hc]; exact h
theorem evF_le {R : FuncId → Option RFn} {n m : Nat} (h : n ≤ m) : OLe (evF R n) (evF R m) := by
  induction h with
  | refl => intro f xs r h; exact h
  | step h ih => intro f xs r hr; exact evF_le1 _ f xs r (ih f xs r hr)

/-! ### What a piece of code comes to -/
section
variable (R : FuncId → Option RFn)
/-- The function comes back with this value. -/
def Rt (f : FuncId) (args : List AV) (r : AV) : Prop := ∃ n, evF R n f args = some r
def WO (fr : Nat) (os : List ROp) (s : St) (Q : St → Prop) : Prop := ∃ n s', evOps (evF R n) fr os s = some s' ∧ Q s'
def WC (c : RC) (s : St) (Q : Ex → St → Prop) : Prop := ∃ n e s', evC (evF R n) n c s = some (e, s') ∧ Q e s'
end
variable {R : FuncId → Option RFn}

theorem Rt.det {f : FuncId} {args : List AV} {r r' : AV} (h : Rt R f args r) (h' : Rt R f args r') : r = r' := by
  obtain ⟨n, h⟩ := h
  obtain ⟨m, h'⟩ := h'
  have a := evF_le (Nat.le_max_left n m) _ _ _ h
  have b := evF_le (Nat.le_max_right n m) _ _ _ h'
  rw [a] at b
  exact Option.some.inj b
theorem WC.mono {c : RC} {s : St} {Q Q' : Ex → St → Prop} (h : WC R c s Q) (hq : ∀ e s', Q e s' → Q' e s') : WC R c s Q' := by
  obtain ⟨n, e, s', h1, h2⟩ := h
  exact ⟨n, e, s', h1, hq _ _ h2⟩
theorem WC.skip {s : St} {Q : Ex → St → Prop} (h : Q .nrm s) : WC R .skip s Q := ⟨0, _, _, rfl, h⟩
theorem WC.exit {id : Nat} {s : St} {Q : Ex → St → Prop} (h : Q (.exit id) s) : WC R (.exit id) s Q := ⟨0, _, _, rfl, h⟩
theorem WC.ret {s : St} {Q : Ex → St → Prop} (h : Q .ret s) : WC R .ret s Q := ⟨0, _, _, rfl, h⟩
theorem WC.seq {a b : RC} {s : St} {Q : Ex → St → Prop} (h : WC R a s fun e s' => match e with | .nrm => WC R b s' Q | e => Q e s') : WC R (.seq a b) s Q := by
  obtain ⟨n, e, s', h1, h2⟩ := h
  cases e with
  | nrm =>
    obtain ⟨m, e2, s2, g1, g2⟩ := h2
    refine ⟨max n m, e2, s2, ?_, g2⟩
    simp only [evC]
    rw [evC_le (evF_le (Nat.le_max_left n m)) (Nat.le_max_left n m) _ _ _ h1]
    exact evC_le (evF_le (Nat.le_max_right n m)) (Nat.le_max_right n m) _ _ _ g1
  | exit id => exact ⟨n, _, s', by simp only [evC]; rw [h1], h2⟩
  | ret => exact ⟨n, _, s', by simp only [evC]; rw [h1], h2⟩
theorem WC.cond {c : Opd} {t e : RC} {s : St} {Q : Ex → St → Prop} (b : Bool) (hc : c.ev s.env = .bool b) (ht : b = true → WC R t s Q) (he : b = false → WC R e s Q) : WC R (.cond c t e) s Q := by
  cases b with
  | true => obtain ⟨n, x, s', h1, h2⟩ := ht rfl; exact ⟨n, x, s', by simp only [evC]; rw [hc]; exact h1, h2⟩
  | false => obtain ⟨n, x, s', h1, h2⟩ := he rfl; exact ⟨n, x, s', by simp only [evC]; rw [hc]; exact h1, h2⟩
theorem WC.block {id : Nat} {b : RC} {s : St} {Q : Ex → St → Prop} (h : WC R b s fun e s' => match e with | .exit i => (bif Nat.beq i id then Q .nrm s' else Q (.exit i) s') | e => Q e s') : WC R (.block id b) s Q := by
  obtain ⟨n, e, s', h1, h2⟩ := h
  cases e with
  | nrm => exact ⟨n, _, s', by simp only [evC]; rw [h1], h2⟩
  | ret => exact ⟨n, _, s', by simp only [evC]; rw [h1], h2⟩
  | exit i =>
    cases hi : Nat.beq i id with
    | true => simp only [hi, cond_true] at h2; exact ⟨n, _, s', by simp only [evC]; rw [h1]; simp only [hi]; rfl, h2⟩
    | false => simp only [hi, cond_false] at h2; exact ⟨n, _, s', by simp only [evC]; rw [h1]; simp only [hi]; rfl, h2⟩
theorem WC.ops {os : List ROp} {s : St} {Q : Ex → St → Prop} (h : WO R s.h.next os s fun s' => Q .nrm s') : WC R (.ops os) s Q := by
  obtain ⟨n, s', h1, h2⟩ := h
  exact ⟨n, _, s', by simp only [evC]; rw [h1], h2⟩
theorem WC.dops {os : List ROp} {ps : List (Nat × Nat)} {s : St} {Q : Ex → St → Prop} (hp : pairsOK s.h.next s.env os ps = true) (h : WO R s.h.next os s fun s' => Q .nrm s') : WC R (.dops os ps) s Q := by
  obtain ⟨n, s', h1, h2⟩ := h
  exact ⟨n, _, s', by simp only [evC]; rw [hp, h1]; rfl, h2⟩
theorem WO.nil {fr : Nat} {s : St} {Q : St → Prop} (h : Q ⟨s.env, ⟨s.h.blk, fr⟩⟩) : WO R fr [] s Q := ⟨0, _, rfl, h⟩
theorem WO.cons {fr : Nat} {o : ROp} {os : List ROp} {s s1 : St} {Q : St → Prop} (h1 : ∃ n, ev1 (evF R n) fr o s = some s1) (h : WO R (fr + 1) os s1 Q) : WO R fr (o :: os) s Q := by
  obtain ⟨n, h1⟩ := h1
  obtain ⟨m, s', g1, g2⟩ := h
  refine ⟨max n m, s', ?_, g2⟩
  simp only [evOps]
  rw [ev1_le (evF_le (Nat.le_max_left n m)) h1]
  exact evOps_le (evF_le (Nat.le_max_right n m)) g1
/-- An operation that calls nothing. -/
theorem WO.op {fr : Nat} {o : ROp} {os : List ROp} {s : St} {Q : St → Prop} {r : RO} {v : AV} {h' : Hp} (ho : o.op = .op r) (hg : o.g = none) (hr : r.step s.env s.h fr = some (v, h')) (h : WO R (fr + 1) os ⟨updO s.env o.dst v, h'⟩ Q) : WO R fr (o :: os) s Q := by
  refine WO.cons ⟨0, ?_⟩ h
  unfold ev1
  rw [hg]
  simp only [guardA]
  rw [ho]
  simp only [RX.run]
  rw [hr]
/-- A call whose arguments hold no references. -/
theorem WO.call {fr : Nat} {o : ROp} {os : List ROp} {s : St} {Q : St → Prop} {f : Opd} {xs : List Opd} {fid : FuncId} {a c : List AV} {v : AV} (ho : o.op = .call f xs) (hg : o.g = none) (hf : f.ev s.env = .fn fid a c) (hfree : refFreeL (a ++ opds s.env xs ++ c) = true) (hr : Rt R fid (a ++ opds s.env xs ++ c) v)
    (h : WO R (fr + 1) os ⟨updO s.env o.dst v, s.h⟩ Q) : WO R fr (o :: os) s Q := by
  obtain ⟨n, hr⟩ := hr
  refine WO.cons ⟨n, ?_⟩ h
  unfold ev1
  rw [hg]
  simp only [guardA]
  rw [ho]
  simp only [RX.run, callA]
  rw [hf]
  simp only
  rw [hfree]
  simp only [cond_true]
  rw [hr]
  rfl
/-- A call that borrows; its result is flat. -/
theorem WO.callB {fr : Nat} {o : ROp} {os : List ROp} {s : St} {Q : St → Prop} {f : Opd} {xs : List Opd} {fid : FuncId} {a c : List AV} {v : AV} {ys : List AV} (ho : o.op = .call f xs) (hg : o.g = none) (hf : f.ev s.env = .fn fid a c) (hz : frzL s.h (a ++ opds s.env xs ++ c) = some ys) (hfree : refFreeL (a ++ opds s.env xs ++ c) = false) (hr : Rt R fid ys v) (hfl : flat v = true)
    (h : WO R (fr + 1) os ⟨updO s.env o.dst v, s.h⟩ Q) : WO R fr (o :: os) s Q := by
  obtain ⟨n, hr⟩ := hr
  refine WO.cons ⟨n, ?_⟩ h
  unfold ev1
  rw [hg]
  simp only [guardA]
  rw [ho]
  simp only [RX.run, callA]
  rw [hf]
  simp only
  rw [hfree]
  simp only [cond_false]
  rw [hz]
  simp only
  rw [hr]
  simp only [hfl]
  rfl
/-- A guard. -/
theorem WO.guard {fr : Nat} {o : ROp} {os : List ROp} {s : St} {Q : St → Prop} {t : Nat} {want b : Bool} (hg : o.g = some (t, want)) (hb : s.env t = .bool b) (h1 : b = want → WO R fr (⟨none, o.dst, o.op⟩ :: os) s Q) (h2 : b = !want → WO R (fr + 1) os ⟨updO s.env o.dst (.tup []), s.h⟩ Q) : WO R fr (o :: os) s Q := by
  by_cases h : b = want
  · obtain ⟨n, s', g1, g2⟩ := h1 h
    refine ⟨n, s', ?_, g2⟩
    rw [← g1]
    simp only [evOps]
    congr 1
    unfold ev1
    rw [hg]
    simp only [guardA, hb]
    rw [show (b == want) = true from by simp [h]]
  · have hb' : b = !want := by cases b <;> cases want <;> simp_all
    refine WO.cons ⟨0, ?_⟩ (h2 hb')
    unfold ev1
    rw [hg]
    simp only [guardA, hb]
    rw [show (b == want) = false from by simp [h]]
theorem WO.skipped {fr : Nat} {o : ROp} {os : List ROp} {s : St} {Q : St → Prop} (hg : guardA s.env o.g = some false) (h : WO R (fr + 1) os ⟨updO s.env o.dst (.tup []), s.h⟩ Q) : WO R fr (o :: os) s Q := by
  refine WO.cons ⟨0, ?_⟩ h
  unfold ev1
  rw [hg]
/-- A loop, by an invariant on its heads and a measure. -/
theorem WC.loop {ws live : List Nat} {b : RC} {s : St} {Q : Ex → St → Prop} {α : Type} (m : α → Nat) (I : α → St → Prop) (x0 : α)
    (h0 : I x0 (headSt ws live s.env s.h.next (canon live s.h.next s).1 (canon live s.h.next s).2))
    (hstep : ∀ x t, I x t → WC R b t fun e t' => match e with
      | .nrm => ∃ y, m y < m x ∧ I y (headSt ws live s.env s.h.next (canon live s.h.next t').1 (canon live s.h.next t').2)
      | e => Q e t') : WC R (.loop ws live b) s Q := by
  have main : ∀ (k : Nat) (x : α) (s1 : St), m x ≤ k → I x (headSt ws live s.env s.h.next (canon live s.h.next s1).1 (canon live s.h.next s1).2) →
      ∃ n e s', iter (evC (evF R n) n b) (fun s' => headSt ws live s.env s.h.next (canon live s.h.next s').1 (canon live s.h.next s').2) n s1 = some (e, s') ∧ Q e s' := by
    intro k
    induction k with
    | zero =>
      intro x s1 hk hI
      obtain ⟨n, e, s', h1, h2⟩ := hstep x _ hI
      cases e with
      | nrm => obtain ⟨y, hy, _⟩ := h2; omega
      | exit i => exact ⟨n + 1, _, s', by simp only [iter]; rw [evC_le (evF_le (Nat.le_succ n)) (Nat.le_succ n) _ _ _ h1], h2⟩
      | ret => exact ⟨n + 1, _, s', by simp only [iter]; rw [evC_le (evF_le (Nat.le_succ n)) (Nat.le_succ n) _ _ _ h1], h2⟩
    | succ k ih =>
      intro x s1 hk hI
      obtain ⟨n, e, s', h1, h2⟩ := hstep x _ hI
      cases e with
      | nrm =>
        obtain ⟨y, hy, hI'⟩ := h2
        obtain ⟨p, e2, s2, g1, g2⟩ := ih y s' (by omega) hI'
        refine ⟨max n p + 1, e2, s2, ?_, g2⟩
        simp only [iter]
        rw [evC_le (evF_le (show n ≤ max n p + 1 by omega)) (show n ≤ max n p + 1 by omega) _ _ _ h1]
        simp only
        exact iter_le (fun t r hr => evC_le (evF_le (show p ≤ max n p + 1 by omega)) (show p ≤ max n p + 1 by omega) _ _ _ hr) (by omega) g1
      | exit i => exact ⟨n + 1, _, s', by simp only [iter]; rw [evC_le (evF_le (Nat.le_succ n)) (Nat.le_succ n) _ _ _ h1], h2⟩
      | ret => exact ⟨n + 1, _, s', by simp only [iter]; rw [evC_le (evF_le (Nat.le_succ n)) (Nat.le_succ n) _ _ _ h1], h2⟩
  obtain ⟨n, e, s', h1, h2⟩ := main (m x0) x0 s (Nat.le_refl _) h0
  exact ⟨n, e, s', by simp only [evC]; exact h1, h2⟩

/-- A loop that forgets nothing, one round. -/
theorem WC.raw {b : RC} {s : St} {Q : Ex → St → Prop} (h : WC R b s fun e s' => match e with | .nrm => WC R (.rawloop b) s' Q | e => Q e s') : WC R (.rawloop b) s Q := by
  obtain ⟨n, e, s', h1, h2⟩ := h
  cases e with
  | nrm =>
    obtain ⟨m, e2, s2, g1, g2⟩ := h2
    simp only [evC] at g1
    refine ⟨max n m + 1, e2, s2, ?_, g2⟩
    simp only [evC, iter]
    rw [evC_le (evF_le (show n ≤ max n m + 1 by omega)) (show n ≤ max n m + 1 by omega) _ _ _ h1]
    exact iter_le (fun t r hr => evC_le (evF_le (show m ≤ max n m + 1 by omega)) (show m ≤ max n m + 1 by omega) _ _ _ hr) (by omega) g1
  | exit i => exact ⟨n + 1, _, s', by simp only [evC, iter]; rw [evC_le (evF_le (Nat.le_succ n)) (Nat.le_succ n) _ _ _ h1], h2⟩
  | ret => exact ⟨n + 1, _, s', by simp only [evC, iter]; rw [evC_le (evF_le (Nat.le_succ n)) (Nat.le_succ n) _ _ _ h1], h2⟩

/-- A function's body. -/
theorem Rt.mk {f : FuncId} {rf : RFn} {args : List AV} {r : AV} (hf : R f = some rf) (hl : args.length = rf.np) (h : WC R rf.body ⟨initEnv args, ⟨[], 0⟩⟩ fun e s' => (e = .nrm ∨ e = .ret) ∧ ∃ v, resultA s' rf.res = some v ∧ frz s'.h 6 v = some r) : Rt R f args r := by
  obtain ⟨n, e, s', h1, he, v, h2, h3⟩ := h
  refine ⟨n + 1, ?_⟩
  rw [evF, hf]
  simp only
  rw [show Nat.beq args.length rf.np = true from by rw [hl]; exact Nat.beq_refl _]
  simp only [cond_true]
  rw [h1]
  rcases he with rfl | rfl <;> simp only [finish, h2, h3]
end Go.Proofs.YtnibcojenlijgaaGreatDoor.Ev
