/- Regions and code. No condition. -/
import Derived.Test.YtnibcojenlijgaaGreatDoorEv12
set_option linter.unusedVariables false
set_option linter.unusedSimpArgs false
namespace Go.Proofs.YtnibcojenlijgaaGreatDoor.Ev
open Go Go.RowKit
section
variable {C : Cfg} {K : Kn} {σ : Sg} {w : World} {a : Act}

theorem rX_call {f : FuncId} {d : Option Tmp} {op : Op} {fo : Opd} {xs : List Opd} (hr : rX C f d op = some (.call fo xs)) : ∃ c g, op = .call c ∧ c.callee = .value g ∧ rOpd C g = some fo ∧ rOpds C c.args.toList = some xs := by
  unfold rX at hr
  split at hr
  · rename_i g args tys
    cases h1 : rOpd C g with
    | none => simp [h1] at hr
    | some f' => cases h2 : rOpds C args.toList with
      | none => simp [h1, h2] at hr
      | some ys => simp only [h1, h2, Option.some.injEq, RX.call.injEq] at hr; obtain ⟨rfl, rfl⟩ := hr; exact ⟨_, g, rfl, rfl, h1, h2⟩
  · split at hr <;> simp at hr
theorem rX_op {f : FuncId} {d : Option Tmp} {op : Op} {r : RO} (hr : rX C f d op = some (.op r)) : rOp C f d op = some r := by
  unfold rX at hr
  split at hr
  · split at hr <;> simp at hr
  · split at hr
    · rename_i h; simp at hr; subst hr; exact h
    · cases hr

structure ROf (C : Cfg) (f : FuncId) (nt : Nat) (ops : Array Oper) (o : Oper) (r : ROp) : Prop where
  op : rX C f o.dst o.op = some r.op
  dst : r.dst = o.dst
  lt : ∀ d, o.dst = some d → d < nt
  guard : (o.guard = none ∧ r.g = none) ∨ ∃ j want t, o.guard = some (j, want) ∧ (ops[j]?).bind (·.dst) = some t ∧ r.g = some (t, want)
theorem rROp_some {f : FuncId} {nt : Nat} {ops : Array Oper} {o : Oper} {r : ROp} (h : rROp C f nt ops o = some r) : ROf C f nt ops o r := by
  unfold rROp at h
  cases h1 : rX C f o.dst o.op with
  | none => simp [h1] at h
  | some x =>
    simp only [h1] at h
    split at h
    · rename_i hd
      have hlt : ∀ d, o.dst = some d → d < nt := fun d he => by rw [he] at hd; simpa [dstLt] using hd
      cases hg : o.guard with
      | none => simp only [hg, Option.some.injEq] at h; subst h; exact ⟨h1, rfl, hlt, .inl ⟨hg, rfl⟩⟩
      | some jw =>
        obtain ⟨j, want⟩ := jw
        simp only [hg] at h
        cases ht : (ops[j]?).bind (·.dst) with
        | none => simp [ht] at h
        | some t => simp only [ht, Option.some.injEq] at h; subst h; exact ⟨h1, rfl, hlt, .inr ⟨j, want, t, hg, ht, rfl⟩⟩
    · cases h

theorem guard_sound {f : FuncId} {nt : Nat} {ops : Array Oper} {o : Oper} {r : ROp} (hr : ROf C f nt ops o r) {e : Env} (hE : EnvR K σ e a.tmps) {b : Bool} (h : guardA e r.g = some b) : Region.wanted o (yielded ops a.tmps) = b := by
  rcases hr.guard with ⟨h1, h2⟩ | ⟨j, want, t, h1, h2, h3⟩
  · rw [h2] at h; cases h; simp [Region.wanted, h1]
  · rw [h3] at h
    simp only [guardA] at h
    have hx := hE t
    have hy : yielded ops a.tmps j = match a.tmps[t]? with | some (.bool b) => some b | _ => none := by simp only [yielded, h2, Option.bind_some]; rfl
    simp only [Region.wanted, h1, hy]
    cases ht : a.tmps[t]? with
    | none =>
      have : a.tmps.getD t undef = undef := by simp [Array.getD_eq_getD_getElem?, ht]
      rw [this] at hx
      generalize e t = p at *
      unfold undef at hx
      cases hx <;> simp at h <;> simp [h]
    | some v =>
      have : a.tmps.getD t undef = v := by simp [Array.getD_eq_getD_getElem?, ht]
      rw [this] at hx
      generalize e t = p at *
      cases hx <;> simp at h <;> simp [h] <;> (subst h; cases want <;> rename_i b <;> cases b <;> rfl)

theorem EnvR.put {e : Env} (hE : EnvR K σ e a.tmps) {dst : Option Tmp} {v : AV} {V : Value} (hv : Rel K σ v V) (hlt : ∀ d, dst = some d → d < a.tmps.size) : EnvR K σ (updO e dst v) (a.put dst V).tmps := by
  cases dst with
  | none => exact hE
  | some d =>
    intro t
    simp only [updO, upd, Act.put]
    cases hb : Nat.beq t d with
    | true =>
      obtain rfl := Nat.eq_of_beq_eq_true hb
      have := hlt t rfl
      simpa [Array.getD_eq_getD_getElem?, this] using hv
    | false =>
      have hne : d ≠ t := fun e => by subst e; simp at hb
      have := hE t
      simpa [Array.getD_eq_getD_getElem?, Array.getElem?_setIfInBounds_ne hne] using this

theorem put_size (a : Act) (d : Option Tmp) (v : Value) : (a.put d v).tmps.size = a.tmps.size := by cases d <;> simp [Act.put]
theorem put_defers' (a : Act) (d : Option Tmp) (v : Value) : (a.put d v).defers = a.defers := by cases d <;> rfl

theorem ev1_sound {orc : Orc} (hO : OrcOK C orc) {f : FuncId} {nt : Nat} {ops : Array Oper} {o : Oper} {r : ROp} (hr : ROf C f nt ops o r) {s s' : St} (hS : Sim K σ s.h w) (hE : EnvR K σ s.env a.tmps) (hG : GlobOK C K) (hnt : nt ≤ a.tmps.size) {fr : Nat} (hfr : σ fr = none)
    (hs : ev1 orc fr r s = some s') {N : Act → World → Prop} {Q : Exit → Act → World → Prop}
    (hk : ∀ V w' K' σ', Sim K' σ' s'.h w' → EnvR K' σ' s'.env (a.put o.dst V).tmps → Ext K σ s.h w K' σ' s'.h w' → (∀ l, l ≠ fr → σ' l = σ l) → N (a.put o.dst V) w') :
    if Region.wanted o (yielded ops a.tmps) = true then o.wp C.P a w N Q else N (a.put o.dst undef) w := by
  unfold ev1 at hs
  have hlt : ∀ d, o.dst = some d → d < a.tmps.size := fun d hd => Nat.lt_of_lt_of_le (hr.lt d hd) hnt
  cases hg : guardA s.env r.g with
  | none => simp [hg] at hs
  | some b =>
    rw [guard_sound hr hE hg]
    cases b with
    | false =>
      simp only [hg, Option.some.injEq] at hs
      subst hs
      simp only [Bool.false_eq_true, if_false]
      refine hk undef w K σ hS ?_ (Ext.refl _ _ _ _) fun _ _ => rfl
      rw [hr.dst]
      exact hE.put (Rel.tupL.2 .nil) hlt
    | true =>
      simp only [hg] at hs
      simp only [if_true]
      cases hrun : r.op.run orc s.env s.h fr with
      | none => simp [hrun] at hs
      | some vh =>
        obtain ⟨v, h'⟩ := vh
        simp only [hrun, Option.some.injEq] at hs
        subst hs
        cases hrop : r.op with
        | call fo xs =>
          have hop := hr.op
          rw [hrop] at hop hrun
          obtain ⟨c, g, ho, hcal, h1, h2⟩ := rX_call hop
          simp only [RX.run] at hrun
          obtain ⟨hca, rfl⟩ := withH_some hrun
          obtain ⟨f', args, e1, e2⟩ := call_calls hO hS hG (rOpd_rel hE hG h1) (opds_rel hE hG h2) hca 0
          have hex : (execOp a.eval o).run C.P w = .ok (.enter f' args) w := by
            rw [← e1]
            simp only [execOp, ho, resolve, hcal]
          unfold Oper.wp
          rw [hex, Oper.upon_enter]
          refine e2.mono ?_
          rintro e w' ⟨V, rfl, K', g1, g2, g3⟩
          refine hk V w' K' σ g2 ?_ g3 fun _ _ => rfl
          rw [hr.dst]
          exact (hE.mono g3.kle g3.sle).put g1 hlt
        | op x =>
          have hop := hr.op
          rw [hrop] at hop hrun
          have hstep : x.step s.env s.h fr = some (v, h') := hrun
          obtain ⟨V, w', K', σ', hV, g1, g2, g3, g4⟩ := op_sound hS hE hG (rX_op hop) hfr hstep
          have fin : N (a.put o.dst V) w' := by
            refine hk V w' K' σ' g2 ?_ g3 g4
            rw [hr.dst]
            exact (hE.mono g3.kle g3.sle).put g1 hlt
          unfold Oper.wp
          rcases hV with hV | ⟨hV, rfl⟩
          · rw [hV, Oper.upon_value]; exact fin
          · rw [hV, Oper.upon_skip]; exact fin

theorem Sim.nx {b : List (Nat × Blk)} {n m : Nat} (hS : Sim K σ ⟨b, n⟩ w) : Sim K σ ⟨b, m⟩ w := ⟨hS.kn, hS.bk, hS.dj⟩
theorem Ext.nx {h : Hp} {K' σ' w'} {b : List (Nat × Blk)} {n m : Nat} (hS : Ext K σ h w K' σ' ⟨b, n⟩ w') : Ext K σ h w K' σ' ⟨b, m⟩ w' := ⟨hS.kle, hS.sle, hS.size, hS.keep, hS.kold, hS.own, hS.os, hS.tape, hS.output, hS.frozen⟩

/-- What holds between an abstract and a concrete state. -/
structure Good (C : Cfg) (nt : Nat) (K : Kn) (σ : Sg) (s : St) (a : Act) (w : World) : Prop where
  sim : Sim K σ s.h w
  env : EnvR K σ s.env a.tmps
  glob : GlobOK C K
  size : nt ≤ a.tmps.size
  defers : a.defers = []
  fresh : ∀ l, s.h.next ≤ l → σ l = none

theorem evOps_sound {orc : Orc} (hO : OrcOK C orc) {f : FuncId} {nt : Nat} {ops : Array Oper} {Q : Exit → Act → World → Prop} : ∀ (rs : List ROp) (os : List Oper) (fr : Nat) (s s' : St) (K : Kn) (σ : Sg) (a : Act) (w : World),
    os.length = rs.length → (∀ (i : Nat) o r, os[i]? = some o → rs[i]? = some r → ROf C f nt ops o r) → Sim K σ s.h w → EnvR K σ s.env a.tmps → GlobOK C K → nt ≤ a.tmps.size → a.defers = [] → (∀ l, fr ≤ l → σ l = none) → evOps orc fr rs s = some s' →
    (∀ K' σ' a' w', Good C nt K' σ' s' a' w' → Ext K σ s.h w K' σ' s'.h w' → (∀ l, l < fr → σ' l = σ l) → fr ≤ s'.h.next → Q .normal a' w') → wpList C.P ops Q os a w := by
  intro rs
  induction rs with
  | nil =>
    intro os fr s s' K σ a w hl hr hS hE hG hnt hd hfr hev hQ
    cases os with
    | cons => simp at hl
    | nil =>
      simp only [evOps, Option.some.injEq] at hev
      subst hev
      exact hQ K σ a w ⟨hS.nx, hE, hG, hnt, hd, hfr⟩ (Ext.refl _ _ _ _).nx (fun _ _ => rfl) (Nat.le_refl _)
  | cons r rs ih =>
    intro os fr s s' K σ a w hl hr hS hE hG hnt hd hfr hev hQ
    cases os with
    | nil => simp at hl
    | cons o os =>
      simp only [evOps] at hev
      cases h1 : ev1 orc fr r s with
      | none => simp [h1] at hev
      | some s1 =>
        simp only [h1] at hev
        have := ev1_sound hO (hr 0 o r rfl rfl) hS hE hG hnt (hfr fr (Nat.le_refl _)) h1 (N := wpList C.P ops Q os) (Q := Q) (fun V w' K' σ' g1 g2 g3 g4 =>
          ih os (fr + 1) s1 s' K' σ' (a.put o.dst V) w' (by simpa using hl) (fun i o' r' q1 q2 => hr (i + 1) o' r' (by simpa using q1) (by simpa using q2)) g1 g2 (hG.mono g3.kle) (by rw [put_size]; exact hnt) (by rw [put_defers']; exact hd)
            (fun l hl => by rw [g4 l (by omega)]; exact hfr l (by omega)) hev (fun K2 σ2 a2 w2 q1 q2 q3 q4 => hQ K2 σ2 a2 w2 q1 (g3.trans q2) (fun l hl => by rw [q3 l (by omega), g4 l (by omega)]) (by omega)))
        unfold wpList
        split at this
        · rename_i hw; rw [if_pos hw]; exact .inl this
        · rename_i hw; rw [if_neg hw]; exact this
end
end Go.Proofs.YtnibcojenlijgaaGreatDoor.Ev
