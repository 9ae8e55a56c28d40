/- Regions that draw their order. No condition. -/
import Derived.Test.YtnibcojenlijgaaGreatDoorEv17
set_option linter.unusedVariables false
set_option linter.unusedSimpArgs false
namespace Go.Proofs.YtnibcojenlijgaaGreatDoor.Ev
open Go Go.RowKit

/-- What the kind of an operation says. -/
def HasFp (orc : Orc) (fr : Nat) (r : ROp) (s : St) : Fp → Prop
  | .pure => ∃ v, EvE orc fr r s v (fun _ => False) .id
  | .fresh => ∃ v eff, EvE orc fr r s v (fun _ => False) eff ∧ ∀ k, eff.touch k → k = fr
  | .rd l => ∃ v, EvE orc fr r s v (fun k => k = l) .id
  | .wr l => ∃ v eff, EvE orc fr r s v (fun k => k = l) eff ∧ ∀ k, eff.touch k → k = l
  | .rdAny => ∃ v, EvM orc fr r s v
  | .wrAny => True

theorem guard_env {e e' : Env} {g : Option (Nat × Bool)} (h : ∀ t, (∃ b, g = some (t, b)) → e' t = e t) : guardA e' g = guardA e g := by
  cases g with
  | none => rfl
  | some p => obtain ⟨t, b⟩ := p; simp only [guardA]; rw [h t ⟨b, rfl⟩]

theorem looks_g {r : ROp} {t : Nat} (h : ∃ b, r.g = some (t, b)) : t ∈ looksR r := by
  obtain ⟨b, hb⟩ := h
  simp [looksR, hb]

theorem evE_of {orc : Orc} {fr : Nat} {r : ROp} {s s1 : St} (h : ev1 orc fr r s = some s1) {deps : Nat → Prop} (okE : EffK → Prop) (hid : okE .id)
    (hstep : ∀ v h1, r.op.run orc s.env s.h fr = some (v, h1) → ∃ eff : EffK, okE eff ∧ ∀ e2 h2, (∀ t ∈ looksR r, e2 t = s.env t) → (∀ l, deps l → h2.get l = s.h.get l) → r.op.run orc e2 h2 fr = some (v, eff.ap h2)) :
    ∃ v eff, EvE orc fr r s v deps eff ∧ okE eff := by
  unfold ev1 at h
  cases hg : guardA s.env r.g with
  | none => simp [hg] at h
  | some b =>
    have hge : ∀ s2 : St, (∀ t ∈ looksR r, s2.env t = s.env t) → guardA s2.env r.g = some b := fun s2 h2 => by
      rw [guard_env fun t ht => h2 t (looks_g ht), hg]
    cases b with
    | false =>
      refine ⟨.tup [], .id, fun s2 h1 h2 => ?_, hid⟩
      unfold ev1
      rw [hge s2 h1]
      rfl
    | true =>
      simp only [hg] at h
      cases hr : r.op.run orc s.env s.h fr with
      | none => simp [hr] at h
      | some vh =>
        obtain ⟨v, h1⟩ := vh
        obtain ⟨eff, e1, e2⟩ := hstep v h1 hr
        refine ⟨v, eff, fun s2 g1 g2 => ?_, e1⟩
        unfold ev1
        rw [hge s2 g1]
        simp only
        rw [e2 s2.env s2.h g1 g2]
theorem evM_of {orc : Orc} {fr : Nat} {r : ROp} {s s1 : St} (h : ev1 orc fr r s = some s1)
    (hstep : ∀ v h1, r.op.run orc s.env s.h fr = some (v, h1) → ∀ e2 h2, (∀ t ∈ looksR r, e2 t = s.env t) → (∀ l B, s.h.get l = some B → h2.get l = some B) → r.op.run orc e2 h2 fr = some (v, h2)) : ∃ v, EvM orc fr r s v := by
  unfold ev1 at h
  cases hg : guardA s.env r.g with
  | none => simp [hg] at h
  | some b =>
    have hge : ∀ s2 : St, (∀ t ∈ looksR r, s2.env t = s.env t) → guardA s2.env r.g = some b := fun s2 h2 => by
      rw [guard_env fun t ht => h2 t (looks_g ht), hg]
    cases b with
    | false =>
      refine ⟨.tup [], fun s2 h1 h2 => ?_⟩
      unfold ev1
      rw [hge s2 h1]
    | true =>
      simp only [hg] at h
      cases hr : r.op.run orc s.env s.h fr with
      | none => simp [hr] at h
      | some vh =>
        obtain ⟨v, h1⟩ := vh
        refine ⟨v, fun s2 g1 g2 => ?_⟩
        unfold ev1
        rw [hge s2 g1]
        simp only
        rw [hstep v h1 hr s2.env s2.h g1 g2]

theorem looks_op {r : ROp} {o : RO} (h : r.op = .op o) : ∀ t ∈ looksRO o, t ∈ looksR r := fun t ht => by simp [looksR, h, ht]
theorem looks_call {r : ROp} {f : Opd} {xs : List Opd} (h : r.op = .call f xs) : (∀ t ∈ tmOf f, t ∈ looksR r) ∧ ∀ t ∈ xs.flatMap tmOf, t ∈ looksR r := ⟨fun t ht => by simp [looksR, h, ht], fun t ht => by
  simp only [looksR, h, List.mem_append]; exact .inr (.inr ht)⟩

/-- Operations that neither read nor write blocks. -/
theorem step_pure {r : RO} (hn : noHeap (.op r) = true) (e : Env) (fr : Nat) : ∃ ov : Option AV, ∀ h, r.step e h fr = withH h ov := by
  cases r <;> (try (simp [noHeap] at hn; done)) <;> simp only [RO.step]
  case mov x => exact ⟨some (x.ev e), fun h => rfl⟩
  case nck x => cases x.ev e <;> first | exact ⟨none, fun h => rfl⟩ | exact ⟨some _, fun h => rfl⟩
  case pick c a b => cases c.ev e <;> first | exact ⟨none, fun h => rfl⟩ | exact ⟨some _, fun h => rfl⟩
  case build z ps => cases fillA (parts3 e ps) z with
    | none => exact ⟨none, fun h => rfl⟩
    | some cs => exact ⟨some _, fun h => rfl⟩
  case blit z n ps =>
    cases (oneL z && Nat.blt 0 z.length) with
    | false => exact ⟨none, fun h => rfl⟩
    | true =>
      simp only [cond_true]
      cases fillS z.length (parts2 e ps) (List.replicate n z) with
      | none => exact ⟨none, fun h => rfl⟩
      | some es => simp only; cases refFreeLL es with
        | false => exact ⟨none, fun h => rfl⟩
        | true => exact ⟨some _, fun h => rfl⟩
  case bin op x y => exact ⟨_, fun h => rfl⟩
  case eqs neg ls x y => cases x.ev e <;> cases y.ev e <;> first
    | exact ⟨none, fun h => rfl⟩
    | (rename_i as bs
       simp only
       cases eqLeaves ls as bs with
       | none => exact ⟨none, fun h => rfl⟩
       | some b => exact ⟨some _, fun h => rfl⟩)
  case eqb neg x y => cases x.ev e <;> cases y.ev e <;> first | exact ⟨none, fun h => rfl⟩ | exact ⟨some _, fun h => rfl⟩
  case un op x => exact ⟨_, fun h => rfl⟩
  case conv k x => cases x.ev e <;> first | exact ⟨none, fun h => rfl⟩ | exact ⟨some _, fun h => rfl⟩
  case mkfn f a c => exact ⟨some _, fun h => rfl⟩
  case fieldA off x => cases x.ev e <;> first | exact ⟨none, fun h => rfl⟩ | exact ⟨some _, fun h => rfl⟩
  case field agg off sz x =>
    cases x.ev e <;> try exact ⟨none, fun h => rfl⟩
    rename_i cs
    simp only
    cases agg with
    | false => exact ⟨cs[off]?, fun h => rfl⟩
    | true => simp only [cond_true]; cases Nat.ble (off + sz) cs.length with
      | false => exact ⟨none, fun h => rfl⟩
      | true => exact ⟨some _, fun h => rfl⟩
  case idxA sz x i => cases i.ev e <;> first | exact ⟨none, fun h => rfl⟩ | exact ⟨_, fun h => rfl⟩
  case idxAarr len sz x i =>
    cases x.ev e <;> cases i.ev e <;> first
      | exact ⟨none, fun h => rfl⟩
      | (simp only
         split
         · exact ⟨some _, fun h => rfl⟩
         · exact ⟨none, fun h => rfl⟩)
  case idxS x i =>
    cases x.ev e <;> cases i.ev e <;> first
      | exact ⟨none, fun h => rfl⟩
      | (simp only
         split
         · split
           · exact ⟨some _, fun h => rfl⟩
           · exact ⟨none, fun h => rfl⟩
         · exact ⟨none, fun h => rfl⟩)
  case idxV agg len sz x i =>
    cases x.ev e <;> cases i.ev e <;> first
      | exact ⟨none, fun h => rfl⟩
      | (rename_i cs k i
         simp only
         split
         · cases agg with
           | false => exact ⟨cs[i.toNat * sz]?, fun h => rfl⟩
           | true => simp only [cond_true]; cases Nat.ble (i.toNat * sz + sz) cs.length with
             | false => exact ⟨none, fun h => rfl⟩
             | true => exact ⟨some _, fun h => rfl⟩
         · exact ⟨none, fun h => rfl⟩)
  case slc sz x lo hi =>
    cases lenA (x.ev e) with
    | none => exact ⟨none, fun h => rfl⟩
    | some n => (try simp only); cases optInt e lo 0 with
      | none => exact ⟨none, fun h => rfl⟩
      | some l => (try simp only); cases optInt e hi n with
        | none => exact ⟨none, fun h => rfl⟩
        | some k => exact ⟨_, fun h => rfl⟩
  case slcS x lo hi =>
    cases x.ev e <;> try exact ⟨none, fun h => rfl⟩
    rename_i s
    (try simp only)
    cases optInt e lo 0 with
    | none => exact ⟨none, fun h => rfl⟩
    | some l => (try simp only); cases optInt e hi s.size with
      | none => exact ⟨none, fun h => rfl⟩
      | some k =>
        simp only
        split
        · exact ⟨some _, fun h => rfl⟩
        · exact ⟨none, fun h => rfl⟩
  case ext x i => cases x.ev e <;> first | exact ⟨none, fun h => rfl⟩ | exact ⟨_, fun h => rfl⟩
  case lenL x => cases lenA (x.ev e) with
    | none => exact ⟨none, fun h => rfl⟩
    | some n => exact ⟨some _, fun h => rfl⟩
  case lenS x => cases x.ev e <;> first | exact ⟨none, fun h => rfl⟩ | exact ⟨some _, fun h => rfl⟩

theorem pure_has {orc : Orc} {fr : Nat} {r : ROp} {s s1 : St} (h : ev1 orc fr r s = some s1) {o : RO} (ho : r.op = .op o) (hn : noHeap (.op o) = true) : HasFp orc fr r s .pure := by
  obtain ⟨v, eff, h1, rfl⟩ := evE_of h (deps := fun _ => False) (fun eff => eff = .id) rfl fun v h1 hr => by
    obtain ⟨ov, hov⟩ := step_pure hn s.env fr
    rw [ho] at hr
    simp only [RX.run] at hr
    rw [hov] at hr
    obtain ⟨e1, _⟩ := withH_some hr
    refine ⟨.id, rfl, fun e2 h2 g1 _ => ?_⟩
    rw [ho]
    simp only [RX.run]
    rw [step_env fun t ht => g1 t (looks_op ho t ht), hov, e1]
    rfl
  exact ⟨v, h1⟩

theorem fresh_has {orc : Orc} {fr : Nat} {r : ROp} {s s1 : St} (h : ev1 orc fr r s = some s1) {o : RO} (ho : r.op = .op o) (hn : ∀ e, ∃ ov : Option (AV × Blk), ∀ h, o.step e h fr = match ov with | some (v, B) => some (v, h.new fr B) | none => none) : HasFp orc fr r s .fresh := by
  obtain ⟨v, eff, h1, h2⟩ := evE_of h (deps := fun _ => False) (fun eff => ∀ k, eff.touch k → k = fr) (fun k hk => hk.elim) fun v h1 hr => by
    obtain ⟨ov, hov⟩ := hn s.env
    rw [ho] at hr
    simp only [RX.run] at hr
    rw [hov] at hr
    cases ov with
    | none => cases hr
    | some vb =>
      obtain ⟨v', B⟩ := vb
      simp only [Option.some.injEq, Prod.mk.injEq] at hr
      obtain ⟨rfl, rfl⟩ := hr
      refine ⟨.new fr B, fun k hk => hk, fun e2 h2 g1 _ => ?_⟩
      rw [ho]
      simp only [RX.run]
      rw [step_env fun t ht => g1 t (looks_op ho t ht), hov]
      rfl
  exact ⟨v, eff, h1, h2⟩

theorem any_has {orc : Orc} {fr : Nat} {r : ROp} {s s1 : St} (h : ev1 orc fr r s = some s1) (hr : (∃ a n x, r.op = .op (.load a n x)) ∨ ∃ f xs, r.op = .call f xs) : HasFp orc fr r s .rdAny := by
  refine evM_of h fun v h1 hrun e2 h2 g1 g2 => ?_
  rcases hr with ⟨a, n, x, ho⟩ | ⟨f, xs, ho⟩
  · rw [ho] at hrun ⊢
    simp only [RX.run] at hrun ⊢
    rw [step_env fun t ht => g1 t (looks_op ho t ht)]
    simp only [RO.step] at hrun ⊢
    obtain ⟨e1, _⟩ := withH_some hrun
    rw [loadAt_mono g2 e1]
    rfl
  · rw [ho] at hrun ⊢
    simp only [RX.run] at hrun ⊢
    obtain ⟨e1, _⟩ := withH_some hrun
    obtain ⟨l1, l2⟩ := looks_call ho
    rw [evx fun t ht => g1 t (l1 t ht), opds_env fun t ht => g1 t (l2 t ht), callA_mono g2 e1]
    rfl

theorem rd_has {orc : Orc} {fr : Nat} {r : ROp} {s s1 : St} (h : ev1 orc fr r s = some s1) {a : Bool} {n t l i off : Nat} (ho : r.op = .op (.load a n (.tmp t))) (ht : s.env t = .ptr l i off) : HasFp orc fr r s (.rd l) := by
  obtain ⟨v, eff, h1, rfl⟩ := evE_of h (deps := fun k => k = l) (fun eff => eff = .id) rfl fun v h1 hr => by
    rw [ho] at hr
    simp only [RX.run, RO.step, Opd.ev, ht] at hr
    obtain ⟨e1, _⟩ := withH_some hr
    refine ⟨.id, rfl, fun e2 h2 g1 g2 => ?_⟩
    rw [ho]
    have := g1 t (looks_op ho t (by simp [looksRO, tmOf]))
    simp only [RX.run, RO.step, Opd.ev, this, ht]
    have e2' : loadAt h2 a n (.ptr l i off) = loadAt s.h a n (.ptr l i off) := by simp only [loadAt]; rw [g2 l rfl]
    rw [e2', e1]
    rfl
  exact ⟨v, h1⟩
theorem rp_has {orc : Orc} {fr : Nat} {r : ROp} {s s1 : St} (h : ev1 orc fr r s = some s1) {a : Bool} {n t off : Nat} {cs : List AV} (ho : r.op = .op (.load a n (.tmp t))) (ht : s.env t = .rp cs off) : HasFp orc fr r s .pure := by
  obtain ⟨v, eff, h1, rfl⟩ := evE_of h (deps := fun _ => False) (fun eff => eff = .id) rfl fun v h1 hr => by
    rw [ho] at hr
    simp only [RX.run, RO.step, Opd.ev, ht] at hr
    obtain ⟨e1, _⟩ := withH_some hr
    refine ⟨.id, rfl, fun e2 h2 g1 g2 => ?_⟩
    rw [ho]
    have := g1 t (looks_op ho t (by simp [looksRO, tmOf]))
    simp only [RX.run, RO.step, Opd.ev, this, ht]
    have e2' : loadAt h2 a n (.rp cs off) = loadAt s.h a n (.rp cs off) := rfl
    rw [e2', e1]
    rfl
  exact ⟨v, h1⟩
theorem wr_has {orc : Orc} {fr : Nat} {r : ROp} {s s1 : St} (h : ev1 orc fr r s = some s1) {n t l i off : Nat} {y : Opd} (ho : r.op = .op (.store n (.tmp t) y)) (ht : s.env t = .ptr l i off) : HasFp orc fr r s (.wr l) := by
  obtain ⟨v, eff, h1, h2⟩ := evE_of h (deps := fun k => k = l) (fun eff => ∀ k, eff.touch k → k = l) (fun k hk => hk.elim) fun v h1 hr => by
    rw [ho] at hr
    simp only [RX.run, RO.step, Opd.ev, ht] at hr
    cases hst : storeAt s.h n (.ptr l i off) (Opd.ev s.env y) with
    | none => simp only [Opd.ev] at hst; rw [hst] at hr; cases hr
    | some h' =>
      have hst' := hst
      simp only [Opd.ev] at hst
      rw [hst] at hr
      simp only [Option.some.injEq, Prod.mk.injEq] at hr
      obtain ⟨rfl, rfl⟩ := hr
      simp only [storeAt] at hst'
      cases hc : cellsO (y.ev s.env) with
      | none => rw [hc] at hst'; cases hst'
      | some vs =>
        rw [hc] at hst'
        simp only at hst'
        cases hg : s.h.get l with
        | none => rw [hg] at hst'; cases hst'
        | some B =>
          rw [hg] at hst'
          simp only at hst'
          cases hi : B.es[i]? with
          | none => rw [hi] at hst'; cases hst'
          | some cs =>
            rw [hi] at hst'
            simp only at hst'
            cases hb : (Nat.beq vs.length n && Nat.ble (off + n) cs.length) with
            | false => rw [hb] at hst'; cases hst'
            | true =>
              rw [hb] at hst'
              simp only [cond_true, Option.some.injEq] at hst'
              refine ⟨.set l ⟨B.sz, B.es.set i (setMany off vs cs)⟩, fun k hk => hk, fun e2 h2 g1 g2 => ?_⟩
              rw [ho]
              have e1 := g1 t (looks_op ho t (by simp [looksRO, tmOf]))
              have e3 : y.ev e2 = y.ev s.env := evx fun u hu => g1 u (looks_op ho u (by simp [looksRO, hu]))
              have e4 : storeAt h2 n (.ptr l i off) (y.ev e2) = some (h2.set l ⟨B.sz, B.es.set i (setMany off vs cs)⟩) := by
                simp only [storeAt]
                rw [e3, hc]
                simp only
                rw [g2 l rfl, hg]
                simp only
                rw [hi]
                simp only
                rw [hb]
                rfl
              simp only [RX.run, RO.step]
              have e5 : (Opd.tmp t).ev e2 = .ptr l i off := by simp only [Opd.ev]; rw [e1, ht]
              rw [e5, e4]
              rfl
  exact ⟨v, eff, h1, h2⟩

theorem has_fp {orc : Orc} {n0 fr : Nat} {ins : List Nat} {e0 : Env} {r : ROp} {s s1 : St} (h : ev1 orc fr r s = some s1) (he : ∀ t, t ∉ ins → s.env t = e0 t) : HasFp orc fr r s (fpOf n0 ins e0 r.op) := by
  have hin : ∀ t, ins.any (Nat.beq t) = false → s.env t = e0 t := fun t ht => he t fun hm => by
    have := List.any_eq_false.1 ht t hm
    simp at this
  cases ho : r.op with
  | call f xs => exact any_has h (.inr ⟨f, xs, ho⟩)
  | op o =>
    simp only [fpOf]
    by_cases hn : noHeap (.op o) = true
    · have hp := pure_has h ho hn
      cases o <;> first | exact hp | (simp [noHeap] at hn; done)
    · cases o <;> simp only [noHeap, not_true_eq_false] at hn
      case alloc z =>
        refine fresh_has h ho fun e => ?_
        cases hz : oneL z with
        | false => exact ⟨none, fun h => by simp [RO.step, hz]⟩
        | true => exact ⟨some (_, _), fun h => by simp only [RO.step, hz, cond_true]; rfl⟩
      case box sz x =>
        refine fresh_has h ho fun e => ?_
        cases hc : cellsO (x.ev e) with
        | none => exact ⟨none, fun h => by simp [RO.step, hc]⟩
        | some cs => cases hb : Nat.beq cs.length sz with
          | false => exact ⟨none, fun h => by simp [RO.step, hc, hb]⟩
          | true => exact ⟨some (_, _), fun h => by simp only [RO.step, hc, hb, cond_true]; rfl⟩
      case bslice z n ps =>
        refine fresh_has h ho fun e => ?_
        cases hb : (oneL z && Nat.blt 0 z.length) with
        | false => exact ⟨none, fun h => by simp only [RO.step]; rw [hb]; rfl⟩
        | true => cases hf : fillS z.length (parts2 e ps) (List.replicate n z) with
          | none => exact ⟨none, fun h => by simp only [RO.step]; rw [hb, hf]; rfl⟩
          | some es => exact ⟨some (_, _), fun h => by simp only [RO.step]; rw [hb, hf]; rfl⟩
      case mks z b n c =>
        refine fresh_has h ho fun e => ?_
        simp only [RO.step]
        split
        · split
          · cases oneL z with
            | false => exact ⟨none, fun h => rfl⟩
            | true => exact ⟨some (_, _), fun h => rfl⟩
          · exact ⟨none, fun h => rfl⟩
        · exact ⟨none, fun h => rfl⟩
      case app => exact trivial
      case load a n x =>
        cases x with
        | con v => exact any_has h (.inl ⟨a, n, _, ho⟩)
        | func f => exact any_has h (.inl ⟨a, n, _, ho⟩)
        | tmp t =>
          simp only [fpRO]
          cases hi : ins.any (Nat.beq t) with
          | true => exact any_has h (.inl ⟨a, n, _, ho⟩)
          | false =>
            simp only [cond_false]
            rw [← hin t hi]
            cases ht : s.env t <;> simp only <;> try exact any_has h (.inl ⟨a, n, _, ho⟩)
            · exact rp_has h ho ht
            · rename_i l i off
              cases Nat.blt l n0 with
              | true => exact rd_has h ho ht
              | false => exact any_has h (.inl ⟨a, n, _, ho⟩)
      case store n x y =>
        cases x with
        | con v => exact trivial
        | func f => exact trivial
        | tmp t =>
          simp only [fpRO]
          cases hi : ins.any (Nat.beq t) with
          | true => exact trivial
          | false =>
            simp only [cond_false]
            rw [← hin t hi]
            cases ht : s.env t <;> simp only <;> try exact trivial
            rename_i l i off
            cases Nat.blt l n0 with
            | true => exact wr_has h ho ht
            | false => exact trivial
end Go.Proofs.YtnibcojenlijgaaGreatDoor.Ev
