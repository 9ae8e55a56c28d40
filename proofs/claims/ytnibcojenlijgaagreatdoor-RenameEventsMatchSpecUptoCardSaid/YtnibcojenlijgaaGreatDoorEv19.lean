/- Regions that draw their order: any order gives the text's answer. No condition. -/
import Derived.Test.YtnibcojenlijgaaGreatDoorEv18
import Derived.Orders
set_option linter.unusedVariables false
set_option linter.unusedSimpArgs false
namespace Go.Proofs.YtnibcojenlijgaaGreatDoor.Ev
open Go Go.RowKit

/-! ### One operation: no new block but its own -/
theorem aset_none {k l : Nat} {b : Blk} : ∀ L, alook L k = none → alook (aset L l b) k = none := by
  intro L
  induction L with
  | nil => intro h; exact h
  | cons p r ih =>
    obtain ⟨m, c⟩ := p
    intro h
    simp only [alook] at h
    cases hm : Nat.beq m k with
    | true => rw [hm] at h; cases h
    | false =>
      rw [hm] at h
      simp only [aset]
      cases hl : Nat.beq m l with
      | true => simp only [cond_true, alook, hm, cond_false]; exact h
      | false => simp only [cond_false, alook, hm]; exact ih h
theorem adel_none {k l : Nat} : ∀ L, alook L k = none → alook (adel L l) k = none := by
  intro L
  induction L with
  | nil => intro h; exact h
  | cons p r ih =>
    obtain ⟨m, c⟩ := p
    intro h
    simp only [alook] at h
    cases hm : Nat.beq m k with
    | true => rw [hm] at h; cases h
    | false =>
      rw [hm] at h
      simp only [adel]
      cases hl : Nat.beq m l with
      | true => simp only [cond_true]; exact ih h
      | false => simp only [cond_false, alook, hm]; exact ih h

def NoNew (fr : Nat) (h h' : Hp) : Prop := ∀ k, k ≠ fr → h.get k = none → h'.get k = none
theorem NoNew.refl (fr : Nat) (h : Hp) : NoNew fr h h := fun _ _ h => h
theorem NoNew.new (fr : Nat) (h : Hp) (b : Blk) : NoNew fr h (h.new fr b) := fun k hk hn => by rw [Hp.get_new_other b hk]; exact hn
theorem NoNew.set (fr l : Nat) (h : Hp) (b : Blk) : NoNew fr h (h.set l b) := fun k hk hn => aset_none _ hn
theorem NoNew.del (fr l : Nat) (h : Hp) : NoNew fr h (h.del l) := fun k hk hn => adel_none _ hn
theorem NoNew.trans {fr : Nat} {h h' h'' : Hp} (a : NoNew fr h h') (b : NoNew fr h' h'') : NoNew fr h h'' := fun k hk hn => b k hk (a k hk hn)

theorem step_nonew {r : RO} {e : Env} {h h' : Hp} {fr : Nat} {v : AV} (hs : r.step e h fr = some (v, h')) : NoNew fr h h' := by
  by_cases hn : noHeap (.op r) = true
  · obtain ⟨ov, hov⟩ := step_pure hn e fr
    rw [hov] at hs
    obtain ⟨_, rfl⟩ := withH_some hs
    exact .refl _ _
  · cases r <;> simp only [noHeap, not_true_eq_false] at hn <;> simp only [RO.step, storeAt, appendA, cond_eq_ite] at hs
    case load => obtain ⟨_, rfl⟩ := withH_some hs; exact .refl _ _
    all_goals
      repeat' (split at hs <;> try (cases hs; done))
      all_goals (try (cases hs; first | exact .new _ _ _ | exact .set _ _ _ _ | exact .refl _ _ | exact .trans (.del _ _ _) (.new _ _ _)))
    all_goals
      rename_i hst
      repeat' (split at hst <;> try (cases hst; done))
      all_goals (try (cases hst; cases hs; first | exact .new _ _ _ | exact .set _ _ _ _ | exact .refl _ _ | exact .trans (.del _ _ _) (.new _ _ _)))

theorem run_nonew {orc : Orc} {r : RX} {e : Env} {h h' : Hp} {fr : Nat} {v : AV} (hs : r.run orc e h fr = some (v, h')) : NoNew fr h h' := by
  cases r with
  | op o => exact step_nonew hs
  | call f xs => obtain ⟨_, rfl⟩ := withH_some (show withH h _ = _ from hs); exact .refl _ _
theorem run_env {orc : Orc} {r : ROp} {e e' : Env} (h : ∀ t ∈ looksR r, e' t = e t) (hp : Hp) (fr : Nat) : r.op.run orc e' hp fr = r.op.run orc e hp fr := by
  cases ho : r.op with
  | op o => exact step_env (fun t ht => h t (looks_op ho t ht)) hp fr
  | call f xs =>
    obtain ⟨l1, l2⟩ := looks_call ho
    simp only [RX.run]
    rw [evx fun t ht => h t (l1 t ht), opds_env fun t ht => h t (l2 t ht)]

/-- What an operation does, seen from its inputs alone. -/
theorem ev1_shape {orc : Orc} {fr : Nat} {r : ROp} {s s1 : St} (h : ev1 orc fr r s = some s1) :
    ∃ v, s1.env = updO s.env r.dst v ∧ NoNew fr s.h s1.h ∧ ∀ e2 : Env, (∀ t ∈ looksR r, e2 t = s.env t) → ev1 orc fr r ⟨e2, s.h⟩ = some ⟨updO e2 r.dst v, s1.h⟩ := by
  unfold ev1 at h
  cases hg : guardA s.env r.g with
  | none => simp [hg] at h
  | some b =>
    have hge : ∀ e2 : Env, (∀ t ∈ looksR r, e2 t = s.env t) → guardA e2 r.g = some b := fun e2 h2 => by
      rw [guard_env fun t ht => h2 t (looks_g ht), hg]
    cases b with
    | false =>
      simp only [hg, Option.some.injEq] at h
      subst h
      refine ⟨.tup [], rfl, .refl _ _, fun e2 h2 => ?_⟩
      unfold ev1
      simp only [hge e2 h2]
    | true =>
      simp only [hg] at h
      cases hr : r.op.run orc s.env s.h fr with
      | none => simp [hr] at h
      | some vh =>
        obtain ⟨v, h1⟩ := vh
        simp only [hr, Option.some.injEq] at h
        subst h
        refine ⟨v, rfl, run_nonew hr, fun e2 h2 => ?_⟩
        unfold ev1
        simp only [hge e2 h2, run_env h2, hr]

theorem updO_other {e : Env} {d : Option Nat} {v : AV} {t : Nat} (h : ∀ k, d = some k → k ≠ t) : updO e d v t = e t := by
  cases d with
  | none => rfl
  | some k => simp [updO, upd, beq_false_of_ne (Ne.symm (h k rfl))]
theorem updO_comm {e : Env} {d c : Option Nat} {v u : AV} (h : ∀ k, d = some k → c ≠ some k) : updO (updO e d v) c u = updO (updO e c u) d v := by
  cases d with
  | none => rfl
  | some k => cases c with
    | none => rfl
    | some m =>
      have hne : k ≠ m := fun e => h k rfl (e ▸ rfl)
      funext t
      simp only [updO, upd]
      cases h1 : Nat.beq t k <;> cases h2 : Nat.beq t m <;> simp
      have := Nat.eq_of_beq_eq_true h1
      have := Nat.eq_of_beq_eq_true h2
      omega
theorem apartR_spec {x y : ROp} (h : apartR x y = true) : (∀ d, x.dst = some d → d ∉ looksR y) ∧ (∀ d, x.dst = some d → y.dst ≠ some d) ∧ (∀ d, y.dst = some d → d ∉ looksR x) := by
  refine ⟨fun d hd => ?_, fun d hd => ?_, fun d hd => ?_⟩ <;> simp [apartR, hd] at h
  · exact h.1.1
  · exact h.1.2
  · exact h.2

theorem fp_lt {n0 : Nat} {ins : List Nat} {e : Env} {r : RX} {l : Nat} (h : fpOf n0 ins e r = .rd l ∨ fpOf n0 ins e r = .wr l) : l < n0 := by
  cases r with
  | call f xs => simp [fpOf] at h
  | op o =>
    simp only [fpOf] at h
    unfold fpRO at h
    simp only [cond_eq_ite] at h
    split at h
    all_goals (try (rcases h with h | h <;> cases h; done))
    all_goals
      split at h
      · rcases h with h | h <;> cases h
      · split at h
        · split at h
          · rename_i hb
            have hlt := Nat.le_of_ble_eq_true hb
            rcases h with h | h <;> cases h <;> exact hlt
          · rcases h with h | h <;> cases h
        · rcases h with h | h <;> cases h
        all_goals (try (rcases h with h | h <;> cases h))

/-- Both orders, when the one's record does not hang on the other's effect. -/
theorem swapE {orc : Orc} {fp fi : Nat} {p i : ROp} {s s1 : St} {vp vi : AV} {dp di : Nat → Prop} {xp xi : EffK} (hap : apartR p i = true)
    (h1 : EvE orc fp p s vp dp xp) (hs1 : s1 = ⟨updO s.env p.dst vp, xp.ap s.h⟩) (h2 : EvE orc fi i s1 vi di xi) (hpi : ∀ k, xp.touch k → ¬ di k) (hip : ∀ k, xi.touch k → ¬ dp k) (htt : ∀ k, xp.touch k → xi.touch k → False) :
    ∃ s1', ev1 orc fi i s = some s1' ∧ ev1 orc fp p s1' = some ⟨updO s1.env i.dst vi, xi.ap s1.h⟩ := by
  obtain ⟨a1, a2, a3⟩ := apartR_spec hap
  have e1 := h2 s (fun t ht => by subst hs1; exact (updO_other fun k hk e => a1 k hk (e ▸ ht)).symm) (fun l hl => by
    subst hs1
    exact (EffK.get (fun ht => hpi l ht hl) s.h).symm)
  refine ⟨_, e1, ?_⟩
  have e2 := h1 ⟨updO s.env i.dst vi, xi.ap s.h⟩ (fun t ht => updO_other fun k hk e => a3 k hk (e ▸ ht)) (fun l hl => EffK.get (fun ht => hip l ht hl) s.h)
  rw [e2]
  subst hs1
  simp only
  rw [updO_comm a2, EffK.comm (fun k h1 h2 => htt k h1 h2)]
theorem EvE.run {orc : Orc} {fr : Nat} {r : ROp} {s s1 : St} {v : AV} {d : Nat → Prop} {x : EffK} (h : EvE orc fr r s v d x) (h1 : ev1 orc fr r s = some s1) : s1 = ⟨updO s.env r.dst v, x.ap s.h⟩ := by
  have := h s (fun _ _ => rfl) (fun _ _ => rfl)
  rw [h1] at this
  exact Option.some.inj this
theorem EvM.toE {orc : Orc} {fr : Nat} {r : ROp} {s : St} {v : AV} (h : EvM orc fr r s v) : EvE orc fr r s v (fun _ => True) .id :=
  fun s2 h1 h2 => h s2 h1 fun l B hl => by rw [h2 l trivial]; exact hl

theorem swap_any {orc : Orc} {n0 fp fi : Nat} {ins : List Nat} {e0 : Env} {p i : ROp} {s s1 s2 : St} (hap : apartR p i = true) (hne : fp ≠ fi) (hp0 : n0 ≤ fp) (hi0 : n0 ≤ fi)
    (hc : compat (fpOf n0 ins e0 p.op) (fpOf n0 ins e0 i.op) = true ∨ noHeap p.op = true ∨ noHeap i.op = true) (he : ∀ t, t ∉ ins → s.env t = e0 t) (hdp : ∀ d, p.dst = some d → d ∈ ins) (hnone : s.h.get fi = none)
    (h1 : ev1 orc fp p s = some s1) (h2 : ev1 orc fi i s1 = some s2) :
    ∃ s1', ev1 orc fi i s = some s1' ∧ ev1 orc fp p s1' = some s2 := by
  obtain ⟨a1, a2, a3⟩ := apartR_spec hap
  have ppure : HasFp orc fp p s .pure → ∃ s1', ev1 orc fi i s = some s1' ∧ ev1 orc fp p s1' = some s2 := fun ⟨v, hv⟩ => by
    have hs1 := hv.run h1
    obtain ⟨u, u1, _, u3⟩ := ev1_shape h2
    have e1 := u3 s.env (fun t ht => by subst hs1; exact (updO_other fun k hk e => a1 k hk (e ▸ ht)).symm)
    have hh : s1.h = s.h := by subst hs1; rfl
    rw [hh] at e1
    refine ⟨_, e1, ?_⟩
    rw [hv ⟨updO s.env i.dst u, s2.h⟩ (fun t ht => updO_other fun k hk e => a3 k hk (e ▸ ht)) (fun _ h => h.elim)]
    obtain ⟨e2, hh2⟩ := s2
    simp only at u1
    subst u1 hs1
    simp only [EffK.ap]
    rw [updO_comm a2]
  have ipure : HasFp orc fi i s1 .pure → ∃ s1', ev1 orc fi i s = some s1' ∧ ev1 orc fp p s1' = some s2 := fun ⟨v, hv⟩ => by
    have hs2 := hv.run h2
    obtain ⟨u, u1, _, u3⟩ := ev1_shape h1
    have e1 := hv s (fun t ht => by rw [u1]; exact (updO_other fun k hk e => a1 k hk (e ▸ ht)).symm) (fun _ h => h.elim)
    refine ⟨_, e1, ?_⟩
    rw [show (EffK.id.ap s.h) = s.h from rfl, u3 (updO s.env i.dst v) (fun t ht => updO_other fun k hk e => a3 k hk (e ▸ ht))]
    subst hs2
    simp only [EffK.ap]
    rw [u1, updO_comm a2]
  rcases hc with hc | hn | hn
  · have hp := has_fp (n0 := n0) (ins := ins) (e0 := e0) h1 he
    have hi := has_fp (n0 := n0) (ins := ins) (e0 := e0) h2 (fun t ht => by
      obtain ⟨u, u1, _, _⟩ := ev1_shape h1
      rw [u1, updO_other (t := t) fun k hk (e : k = t) => ht (e ▸ hdp k hk)]
      exact he t ht)
    have lp : ∀ l, fpOf n0 ins e0 p.op = .rd l ∨ fpOf n0 ins e0 p.op = .wr l → l < n0 := fun l => fp_lt
    have li : ∀ l, fpOf n0 ins e0 i.op = .rd l ∨ fpOf n0 ins e0 i.op = .wr l → l < n0 := fun l => fp_lt
    have both : ∀ {vp vi : AV} {dp di : Nat → Prop} {xp xi : EffK}, EvE orc fp p s vp dp xp → EvE orc fi i s1 vi di xi → (∀ k, xp.touch k → ¬ di k) → (∀ k, xi.touch k → ¬ dp k) → (∀ k, xp.touch k → xi.touch k → False) →
        ∃ s1', ev1 orc fi i s = some s1' ∧ ev1 orc fp p s1' = some s2 := fun g1 g2 g3 g4 g5 => by
      have := swapE hap g1 (g1.run h1) g2 g3 g4 g5
      rwa [← g2.run h2] at this
    generalize fpOf n0 ins e0 p.op = A at hc hp lp
    generalize fpOf n0 ins e0 i.op = B at hc hi li
    cases A <;> cases B <;> first
      | exact ppure hp
      | exact ipure hi
      | (cases hc; done)
      | skip
    case fresh.fresh =>
      obtain ⟨vp, xp, p1, p2⟩ := hp
      obtain ⟨vi, xi, i1, i2⟩ := hi
      exact both p1 i1 (fun _ _ h => h) (fun _ _ h => h) fun k k1 k2 => hne (by rw [← p2 k k1, i2 k k2])
    case fresh.rd l =>
      obtain ⟨vp, xp, p1, p2⟩ := hp
      obtain ⟨vi, i1⟩ := hi
      have := li l (.inl rfl)
      exact both p1 i1 (fun k hk e => by have := p2 k hk; omega) (fun _ h => h.elim) (fun _ _ h => h.elim)
    case fresh.wr l =>
      obtain ⟨vp, xp, p1, p2⟩ := hp
      obtain ⟨vi, xi, i1, i2⟩ := hi
      have := li l (.inr rfl)
      exact both p1 i1 (fun k hk e => by have := p2 k hk; omega) (fun _ _ h => h) (fun k h g => by have := p2 k h; have := i2 k g; omega)
    case rd.fresh l =>
      obtain ⟨vp, p1⟩ := hp
      obtain ⟨vi, xi, i1, i2⟩ := hi
      have := lp l (.inl rfl)
      exact both p1 i1 (fun _ h => h.elim) (fun k hk e => by have := i2 k hk; omega) (fun _ h => h.elim)
    case rd.rd => obtain ⟨vp, p1⟩ := hp; obtain ⟨vi, i1⟩ := hi; exact both p1 i1 (fun _ h => h.elim) (fun _ h => h.elim) (fun _ h => h.elim)
    case rd.rdAny => obtain ⟨vp, p1⟩ := hp; obtain ⟨vi, i1⟩ := hi; exact both p1 i1.toE (fun _ h => h.elim) (fun _ h => h.elim) (fun _ h => h.elim)
    case rd.wr l m =>
      obtain ⟨vp, p1⟩ := hp
      obtain ⟨vi, xi, i1, i2⟩ := hi
      have hlm : l ≠ m := fun e => by subst e; simp [compat] at hc
      exact both p1 i1 (fun _ h => h.elim) (fun k hk e => by have := i2 k hk; omega) (fun _ h => h.elim)
    case rdAny.fresh =>
      obtain ⟨vp, p1⟩ := hp
      obtain ⟨vi, xi, i1, i2⟩ := hi
      have hs1 := p1.toE.run h1
      have hs2 := i1.run h2
      have e1 := i1 s (fun t ht => by subst hs1; exact (updO_other fun k hk e => a1 k hk (e ▸ ht)).symm) (fun _ h => h.elim)
      refine ⟨_, e1, ?_⟩
      rw [p1 ⟨updO s.env i.dst vi, xi.ap s.h⟩ (fun t ht => updO_other fun k hk e => a3 k hk (e ▸ ht)) (fun l B hl => by
        have hx : ¬ xi.touch l := fun hx => by rw [i2 l hx, hnone] at hl; cases hl
        rw [EffK.get hx]; exact hl)]
      subst hs2 hs1
      simp only [EffK.ap]
      rw [updO_comm a2]
    case rdAny.rd => obtain ⟨vp, p1⟩ := hp; obtain ⟨vi, i1⟩ := hi; exact both p1.toE i1 (fun _ h => h.elim) (fun _ h => h.elim) (fun _ h => h.elim)
    case rdAny.rdAny => obtain ⟨vp, p1⟩ := hp; obtain ⟨vi, i1⟩ := hi; exact both p1.toE i1.toE (fun _ h => h.elim) (fun _ h => h.elim) (fun _ h => h.elim)
    case wr.fresh l =>
      obtain ⟨vp, xp, p1, p2⟩ := hp
      obtain ⟨vi, xi, i1, i2⟩ := hi
      have := lp l (.inr rfl)
      exact both p1 i1 (fun _ _ h => h) (fun k hk e => by have := i2 k hk; omega) (fun k h g => by have := p2 k h; have := i2 k g; omega)
    case wr.rd l m =>
      obtain ⟨vp, xp, p1, p2⟩ := hp
      obtain ⟨vi, i1⟩ := hi
      have hlm : l ≠ m := fun e => by subst e; simp [compat] at hc
      exact both p1 i1 (fun k hk e => by have := p2 k hk; omega) (fun _ h => h.elim) (fun _ _ h => h.elim)
    case wr.wr l m =>
      obtain ⟨vp, xp, p1, p2⟩ := hp
      obtain ⟨vi, xi, i1, i2⟩ := hi
      have hlm : l ≠ m := fun e => by subst e; simp [compat] at hc
      exact both p1 i1 (fun k hk e => by have := p2 k hk; omega) (fun k hk e => by have := i2 k hk; omega) (fun k h g => by have := p2 k h; have := i2 k g; omega)
  · cases ho : p.op with
    | call f xs => rw [ho] at hn; cases hn
    | op o => exact ppure (pure_has h1 ho (ho ▸ hn))
  · cases ho : i.op with
    | call f xs => rw [ho] at hn; cases hn
    | op o => exact ipure (pure_has h2 ho (ho ▸ hn))
end Go.Proofs.YtnibcojenlijgaaGreatDoor.Ev
