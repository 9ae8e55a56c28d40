/- Code is sound. No condition. -/
import Derived.Test.YtnibcojenlijgaaGreatDoorEv14
set_option linter.unusedVariables false
set_option linter.unusedSimpArgs false
namespace Go.Proofs.YtnibcojenlijgaaGreatDoor.Ev
open Go Go.RowKit

structure ExtW (K : Kn) (σ : Sg) (h : Hp) (w : World) (K' : Kn) (σ' : Sg) (h' : Hp) (w' : World) : Prop where
  kle : KLe K K'
  size : w.heap.size ≤ w'.heap.size
  keep : ∀ b, b < w.heap.size → ¬ Own σ h b → w'.heap[b]? = w.heap[b]?
  kold : ∀ b, b < w.heap.size → ¬ Own σ h b → ∀ o, K' b o = K b o
  own : ∀ b, Own σ' h' b → w.heap.size ≤ b ∨ Own σ h b
  os : w'.os = w.os
  tape : w'.tape = w.tape
  output : w'.output = w.output
  frozen : ∀ a, w'.frozen? a = w.frozen? a
theorem Ext.weak {K σ h w K' σ' h' w'} (e : Ext K σ h w K' σ' h' w') : ExtW K σ h w K' σ' h' w' := ⟨e.kle, e.size, e.keep, e.kold, e.own, e.os, e.tape, e.output, e.frozen⟩
theorem ExtW.refl (K σ h w) : ExtW K σ h w K σ h w := (Ext.refl K σ h w).weak
theorem ExtW.trans {K σ h w K1 σ1 h1 w1 K2 σ2 h2 w2} (e : ExtW K σ h w K1 σ1 h1 w1) (e' : ExtW K1 σ1 h1 w1 K2 σ2 h2 w2) : ExtW K σ h w K2 σ2 h2 w2 := by
  have no : ∀ b, b < w.heap.size → ¬ Own σ h b → ¬ Own σ1 h1 b := fun b hb hn ho => by
    rcases e.own b ho with h | h
    · omega
    · exact hn h
  refine ⟨e.kle.trans e'.kle, Nat.le_trans e.size e'.size, fun b hb hn => ?_, fun b hb hn o => ?_, fun b hb => ?_, e'.os.trans e.os, e'.tape.trans e.tape, e'.output.trans e.output, fun a => (e'.frozen a).trans (e.frozen a)⟩
  · rw [e'.keep b (Nat.lt_of_lt_of_le hb e.size) (no b hb hn), e.keep b hb hn]
  · rw [e'.kold b (Nat.lt_of_lt_of_le hb e.size) (no b hb hn), e.kold b hb hn]
  · rcases e'.own b hb with h | h
    · exact .inl (Nat.le_trans e.size h)
    · exact e.own b h

section
variable {C : Cfg}

theorem purge_id {K : Kn} {σ : Sg} {n0 : Nat} {v : AV} {V : Value} (h : Rel K σ v V) : (∀ l, n0 ≤ l → σ l = none) → purge n0 v = v := by
  have lists : ∀ {cs : List AV} {vs : Array Value}, vs.size = cs.length → (∀ (i : Nat) a v, cs[i]? = some a → vs[i]? = some v → purge n0 a = a) → purgeL n0 cs = cs := by
    intro cs vs hl hh
    apply List.ext_getElem?
    intro i
    rw [purgeL_get]
    cases hc : cs[i]? with
    | none => rfl
    | some a =>
      have hi : i < vs.size := by rw [hl]; exact (List.getElem?_eq_some_iff.1 hc).1
      simp [hh i a vs[i] hc (by simp [hi])]
  induction h with
  | top => intros; rfl
  | bool => intros; rfl
  | int => intros; rfl
  | str => intros; rfl
  | agg hl _ ih => intro hs; simp only [purge]; rw [lists hl fun i a v h1 h2 => ih i a v h1 h2 hs]
  | tup hl _ ih => intro hs; simp only [purge]; rw [lists hl fun i a v h1 h2 => ih i a v h1 h2 hs]
  | rs0 => intros; rfl
  | rs => intros; rfl
  | rp => intros; rfl
  | sl hσ =>
    rename_i l off n c z x rc _ _ _ _
    intro hs
    have : l < n0 := by
      rcases Nat.lt_or_ge l n0 with h | h
      · exact h
      · rw [hs l h] at hσ; cases hσ
    have hb : Nat.blt l n0 = true := Nat.ble_eq_true_of_le this
    simp [purge, hb]
  | ptr hσ =>
    rename_i l i off x
    intro hs
    have : l < n0 := by
      rcases Nat.lt_or_ge l n0 with h | h
      · exact h
      · rw [hs l h] at hσ; cases hσ
    have hb : Nat.blt l n0 = true := Nat.ble_eq_true_of_le this
    simp [purge, hb]
  | nils => intros; rfl
  | nilp => intros; rfl
  | nilf => intros; rfl
  | fn ha hc _ _ ih ih' => intro hs; simp only [purge]; rw [lists ha fun i a v h1 h2 => ih i a v h1 h2 hs, lists hc fun i a v h1 h2 => ih' i a v h1 h2 hs]

theorem carry_val {K : Kn} {σ σ' : Sg} {h : Hp} {n0 : Nat} {e : Env} (hs : ∀ l, l < n0 → σ' l = σ l) : ∀ (ts : List Nat) (j : Nat), (∀ l, n0 + j ≤ l → σ' l = (csrc h n0 e j ts l).bind σ) →
    ∀ (i : Nat) t v, ts[i]? = some t → (carry h n0 e j ts).1[i]? = some v → ∀ V, Rel K σ (e t) V → Rel K σ' v V := by
  intro ts
  induction ts with
  | nil => intro j _ i t v h; simp at h
  | cons t0 ts ih =>
    intro j hσ i t v ht hv V hr
    have next : ∀ l, n0 + (j + 1) ≤ l → σ' l = (csrc h n0 e (j + 1) ts l).bind σ := fun l hl => by
      rw [hσ l (by omega)]
      simp only [csrc]
      cases he : e t0 <;> try rfl
      simp only
      rw [if_neg (by omega)]
    have tail : ∀ {vs : List AV} {u : AV}, (u :: (carry h n0 e (j + 1) ts).1)[i]? = some v → (i = 0 → ∀ V, Rel K σ (e t0) V → Rel K σ' u V) → Rel K σ' v V := by
      intro vs u hu h0
      cases i with
      | zero => simp at hu ht; subst hu; subst ht; exact h0 rfl V hr
      | succ i => exact ih (j + 1) next i t v (by simpa using ht) (by simpa using hu) V hr
    simp only [carry] at hv
    cases he : e t0 <;> rw [he] at hv <;> try (exact tail (vs := []) hv (fun _ V hV => by rw [he] at hV; exact purge_rel hV hs))
    rename_i l1 off n c z
    simp only at hv
    by_cases hlt : l1 < n0
    · have hb : Nat.blt l1 n0 = true := Nat.ble_eq_true_of_le hlt
      simp only [hb, cond_true] at hv
      refine tail (vs := []) hv (fun _ V hV => ?_)
      rw [he] at hV
      have := purge_rel hV hs
      simpa [purge, hb] using this
    · have hb : Nat.blt l1 n0 = false := by
        cases hq : Nat.blt l1 n0 with
        | false => rfl
        | true => exact absurd (Nat.le_of_ble_eq_true hq) hlt
      simp only [hb, cond_false] at hv
      cases hg : h.get l1 with
      | none => simp only [hg] at hv; exact tail (vs := []) hv (fun _ V _ => .top)
      | some b =>
        simp only [hg] at hv
        cases htw : carry.twice ts e l1 with
        | true => simp only [htw, cond_true] at hv; exact tail (vs := []) hv (fun _ V _ => .top)
        | false =>
          simp only [htw, cond_false] at hv
          refine tail (vs := []) hv (fun _ V hV => ?_)
          rw [he] at hV
          cases hV with
          | sl q1 q2 q3 q4 q5 =>
            refine .sl ?_ q2 q3 q4 q5
            rw [hσ (n0 + j) (Nat.le_refl _)]
            simp only [csrc, he, if_true]
            rw [if_pos ⟨hlt, by simp [hg], htw⟩]
            exact q1
theorem pick1_cases : ∀ (live : List Nat) (vs : List AV) (k : Nat) (d : AV), pick1 live vs k d = d ∨ ∃ (i : Nat) (v : AV), live[i]? = some k ∧ vs[i]? = some v ∧ pick1 live vs k d = v := by
  intro live
  induction live with
  | nil => intro vs k d; left; cases vs <;> rfl
  | cons t ts ih =>
    intro vs k d
    cases vs with
    | nil => left; rfl
    | cons v vs =>
      simp only [pick1]
      cases hb : Nat.beq k t with
      | true => right; obtain rfl := Nat.eq_of_beq_eq_true hb; exact ⟨0, v, rfl, rfl, rfl⟩
      | false =>
        rcases ih vs k d with h | ⟨i, u, h1, h2, h3⟩
        · left; exact h
        · right; exact ⟨i + 1, u, by simpa using h1, by simpa using h2, h3⟩

theorem head_sound {nt : Nat} {K : Kn} {σ : Sg} {s : St} {a : Act} {w : World} (hg : Good C nt K σ s a w) {ws live : List Nat} {env0 : Env} {n0 : Nat} (he : ∀ k, k ∉ ws → s.env k = env0 k) (hb : ∀ k, k ∉ ws → purge n0 (env0 k) = env0 k) :
    ∃ σ', Good C nt K σ' (headSt ws live env0 n0 (canon live n0 s).1 (canon live n0 s).2) a w ∧ ExtW K σ s.h w K σ' (headSt ws live env0 n0 (canon live n0 s).1 (canon live n0 s).2).h w ∧ ∀ l, l < n0 → σ' l = σ l := by
  let σ' : Sg := fun l => if l < n0 then σ l else (csrc s.h n0 s.env 0 live l).bind σ
  have hs : ∀ l, l < n0 → σ' l = σ l := fun l hl => by simp [σ', hl]
  have hs2 : ∀ l, n0 + 0 ≤ l → σ' l = (csrc s.h n0 s.env 0 live l).bind σ := fun l hl => by simp [σ', show ¬ l < n0 by omega]
  -- where a block comes from
  have src : ∀ l B', (headSt ws live env0 n0 (canon live n0 s).1 (canon live n0 s).2).h.get l = some B' → ∃ l0 B, s.h.get l0 = some B ∧ B' = purgeB n0 B ∧ σ' l = σ l0 ∧ ((l < n0 ∧ l0 = l) ∨ (¬ l < n0 ∧ ¬ l0 < n0 ∧ csrc s.h n0 s.env 0 live l = some l0)) := by
    intro l B' hl
    simp only [headSt, canon, Hp.get, alook_append, carry_blk, alook_old] at hl
    cases hc : csrc s.h n0 s.env 0 live l with
    | some l0 =>
      obtain ⟨h1, h2, h3, h4, _⟩ := csrc_ge live 0 l l0 hc
      obtain ⟨B, hB⟩ := Option.isSome_iff_exists.1 h4
      have hB' : alook s.h.blk l0 = some B := hB
      simp only [hc, Option.bind_some, hB', Option.map_some, Option.some.injEq] at hl
      exact ⟨l0, B, hB, hl.symm, by rw [hs2 l (by omega), hc]; rfl, .inr ⟨by omega, h3, rfl⟩⟩
    | none =>
      simp only [hc, Option.bind_none] at hl
      split at hl
      · rename_i hlt
        cases hB : alook s.h.blk l with
        | none => simp [hB] at hl
        | some B =>
          simp only [hB, Option.map_some, Option.some.injEq] at hl
          exact ⟨l, B, hB, hl.symm, hs l hlt, .inl ⟨hlt, rfl⟩⟩
      · cases hl
  refine ⟨σ', ⟨⟨hg.sim.kn, fun l B' hl => ?_, fun l l' B B' x x' h1 h2 h3 h4 h5 => ?_⟩, fun k => ?_, hg.glob, hg.size, hg.defers, fun l hl => ?_⟩, ⟨KLe.refl _, Nat.le_refl _, fun _ _ _ => rfl, fun _ _ _ _ => rfl, fun b hb => ?_, rfl, rfl, rfl, fun _ => rfl⟩, hs⟩
  · obtain ⟨l0, B, hB, rfl, hσ, _⟩ := src l B' hl
    obtain ⟨x, c, t, k1, k2, k3, k4, k5, k6, k7, k8⟩ := hg.sim.bk l0 B hB
    obtain ⟨p1, p2, p3⟩ := purgeB_get (n0 := n0) (B := B) (K := K) (σ := σ) (σ' := σ') hs
    refine ⟨x, c, t, by rw [hσ]; exact k1, by rw [p1]; exact k2, k3, k4, by rw [p1, p2]; exact k5, fun e he' => ?_, fun i j e v q1 q2 => ?_, k8⟩
    · obtain ⟨i, hi⟩ := List.mem_iff_getElem?.1 he'
      obtain ⟨e0, r1, r2, _⟩ := p3 i e hi
      rw [r2, p1]
      exact k6 e0 (List.mem_of_getElem? r1)
    · obtain ⟨e0, r1, _, r3⟩ := p3 i e q1
      obtain ⟨a0, r4, r5⟩ := r3 j v q2
      obtain ⟨u, f1, f2, f3⟩ := k7 i j e0 a0 r1 r4
      exact ⟨u, by rw [p1]; exact f1, f2, r5 u f3⟩
  · obtain ⟨l0, B0, hB, _, hσ, hk⟩ := src l B h1
    obtain ⟨l1, B1, hB1, _, hσ1, hk1⟩ := src l' B' h2
    rw [hσ] at h3
    rw [hσ1] at h4
    have := hg.sim.dj l0 l1 B0 B1 x x' hB hB1 h3 h4 h5
    subst this
    rcases hk with ⟨a1, a2⟩ | ⟨a1, a2, a3⟩ <;> rcases hk1 with ⟨b1, b2⟩ | ⟨b1, b2, b3⟩
    · omega
    · omega
    · omega
    · exact csrc_inj live 0 l l' l0 a3 b3
  · simp only [headSt, headEnv]
    rcases pick1_cases live (canon live n0 s).1 k (bif ws.any (Nat.beq k) then .top else env0 k) with h | ⟨i, v, h1, h2, h3⟩
    · rw [h]
      cases hw : ws.any (Nat.beq k) with
      | true => exact .top
      | false =>
        have hk : k ∉ ws := fun hk => by
          have := List.any_eq_false.1 hw k hk
          simp at this
        simp only [cond_false]
        have := hg.env k
        rw [he k hk] at this
        have := purge_rel (n0 := n0) this hs
        rwa [hb k hk] at this
    · rw [h3]
      exact carry_val hs live 0 hs2 i k v h1 h2 _ (hg.env k)
  · simp only [headSt] at hl
    rw [hs2 l (by omega)]
    cases hc : csrc s.h n0 s.env 0 live l with
    | none => rfl
    | some l0 => have := (csrc_ge live 0 l l0 hc).2.1; omega
  · obtain ⟨l, B', x, h1, h2, rfl⟩ := hb
    obtain ⟨l0, B, hB, _, hσ, _⟩ := src l B' h1
    exact .inr ⟨l0, B, x, hB, by rw [← hσ]; exact h2, rfl⟩

def exOf : Ex → Exit
  | .nrm => .normal
  | .exit id => .exit id
  | .ret => .ret

def DrawOK (C : Cfg) (orc : Orc) : Prop := ∀ f nt id ops rs ps, rRegion C f nt ops true = some (.dops rs ps) → ∀ s s' K σ a w, Good C nt K σ s a w → pairsOK s.h.next s.env rs ps = true → evOps orc s.h.next rs s = some s' →
  ∀ Q : Exit → Act → World → Prop, (∀ K' σ' a' w', Good C nt K' σ' s' a' w' → ExtW K σ s.h w K' σ' s'.h w' → (∀ l, l < s.h.next → σ' l = σ l) → s.h.next ≤ s'.h.next → Q .normal a' w') → (Code.region id ops true).wp C.P Q a w

theorem rRegion_ops {f : FuncId} {nt : Nat} {ops : Array Oper} {r : RC} (h : rRegion C f nt ops false = some r) : ∃ rs, r = .ops rs ∧ rs.length = ops.toList.length ∧ ∀ (i : Nat) o q, ops.toList[i]? = some o → rs[i]? = some q → ROf C f nt ops o q := by
  unfold rRegion at h
  cases hm : mapO (rROp C f nt ops) ops.toList with
  | none => simp [hm] at h
  | some rs =>
    simp only [hm, Bool.false_eq_true, if_false, Option.some.injEq] at h
    obtain ⟨m1, m2⟩ := mapO_some hm
    refine ⟨rs, h.symm, m1, fun i o q h1 h2 => ?_⟩
    obtain ⟨y, g1, g2⟩ := m2 i o h1
    rw [h2] at g1; cases g1
    exact rROp_some g2

theorem rCode_wf {f : FuncId} {nt : Nat} : ∀ (c : Code) (r : RC), rCode C f nt c = some r → (∀ g q, C.live g q = C.live g q) → True := fun _ _ _ _ => trivial

theorem evC_sound {orc : Orc} (hO : OrcOK C orc) (hD : DrawOK C orc) {f : FuncId} {nt n : Nat} : ∀ (c : Code) (r : RC), rCode C f nt c = some r → wfR r = true → ∀ (s s' : St) (ex : Ex) (K : Kn) (σ : Sg) (a : Act) (w : World), Good C nt K σ s a w → evC orc n r s = some (ex, s') →
    ∀ Q : Exit → Act → World → Prop, (∀ K' σ' a' w', Good C nt K' σ' s' a' w' → ExtW K σ s.h w K' σ' s'.h w' → (∀ l, l < s.h.next → σ' l = σ l) → s.h.next ≤ s'.h.next → Q (exOf ex) a' w') → c.wp C.P Q a w := by
  intro c
  induction c with
  | skip =>
    intro r hr _ s s' ex K σ a w hg hev Q hQ
    simp only [rCode, Option.some.injEq] at hr; subst hr
    simp only [evC, Option.some.injEq, Prod.mk.injEq] at hev
    obtain ⟨rfl, rfl⟩ := hev
    exact wp_skip (hQ K σ a w hg (ExtW.refl _ _ _ _) (fun _ _ => rfl) (Nat.le_refl _))
  | label l =>
    intro r hr _ s s' ex K σ a w hg hev Q hQ
    simp only [rCode, Option.some.injEq] at hr; subst hr
    simp only [evC, Option.some.injEq, Prod.mk.injEq] at hev
    obtain ⟨rfl, rfl⟩ := hev
    exact wp_label (hQ K σ a w hg (ExtW.refl _ _ _ _) (fun _ _ => rfl) (Nat.le_refl _))
  | exit id =>
    intro r hr _ s s' ex K σ a w hg hev Q hQ
    simp only [rCode, Option.some.injEq] at hr; subst hr
    simp only [evC, Option.some.injEq, Prod.mk.injEq] at hev
    obtain ⟨rfl, rfl⟩ := hev
    exact wp_exit (hQ K σ a w hg (ExtW.refl _ _ _ _) (fun _ _ => rfl) (Nat.le_refl _))
  | ret =>
    intro r hr _ s s' ex K σ a w hg hev Q hQ
    simp only [rCode, Option.some.injEq] at hr; subst hr
    simp only [evC, Option.some.injEq, Prod.mk.injEq] at hev
    obtain ⟨rfl, rfl⟩ := hev
    exact wp_ret (hQ K σ a w hg (ExtW.refl _ _ _ _) (fun _ _ => rfl) (Nat.le_refl _))
  | region id ops draw =>
    intro r hr _ s s' ex K σ a w hg hev Q hQ
    simp only [rCode] at hr
    cases draw with
    | false =>
      obtain ⟨rs, rfl, hl, hro⟩ := rRegion_ops hr
      simp only [evC] at hev
      cases h1 : evOps orc s.h.next rs s with
      | none => simp [h1] at hev
      | some s1 =>
        simp only [h1, Option.some.injEq, Prod.mk.injEq] at hev
        obtain ⟨rfl, rfl⟩ := hev
        exact wp_region_list (evOps_sound hO rs ops.toList s.h.next s s1 K σ a w hl.symm hro hg.sim hg.env hg.glob hg.size hg.defers hg.fresh h1 fun K' σ' a' w' g1 g2 g3 g4 => hQ K' σ' a' w' g1 g2.weak g3 g4)
    | true =>
      have hrr := hr
      unfold rRegion at hr
      cases hm : mapO (rROp C f nt ops) ops.toList with
      | none => simp [hm] at hr
      | some rs =>
        simp only [hm, if_true] at hr
        split at hr
        · cases hr
          simp only [evC] at hev
          cases hp : pairsOK s.h.next s.env rs _ with
          | false => rw [hp] at hev; cases hev
          | true =>
            rw [hp] at hev
            simp only [cond_true] at hev
            cases h1 : evOps orc s.h.next rs s with
            | none => simp [h1] at hev
            | some s1 =>
              simp only [h1, Option.some.injEq, Prod.mk.injEq] at hev
              obtain ⟨rfl, rfl⟩ := hev
              exact hD f nt id ops rs _ hrr s s1 K σ a w hg hp h1 Q hQ
        · cases hr
  | seq x y ihx ihy =>
    intro r hr hwf s s' ex K σ a w hg hev Q hQ
    simp only [rCode] at hr
    cases hx : rCode C f nt x with
    | none => simp [hx] at hr
    | some rx => cases hy : rCode C f nt y with
      | none => simp [hx, hy] at hr
      | some ry =>
        simp only [hx, hy, Option.some.injEq] at hr; subst hr
        simp only [wfR, Bool.and_eq_true] at hwf
        simp only [evC] at hev
        cases h1 : evC orc n rx s with
        | none => simp [h1] at hev
        | some p =>
          obtain ⟨e1, s1⟩ := p
          refine wp_seq (ihx rx hx hwf.1 s s1 e1 K σ a w hg h1 _ fun K' σ' a' w' g1 g2 g3 g4 => ?_)
          cases e1 <;> simp only [h1, Option.some.injEq, Prod.mk.injEq] at hev
          · exact ihy ry hy hwf.2 s1 s' ex K' σ' a' w' g1 hev Q fun K2 σ2 a2 w2 k1 k2 k3 k4 => hQ K2 σ2 a2 w2 k1 (g2.trans k2) (fun l hl => by rw [k3 l (by omega), g3 l hl]) (by omega)
          · obtain ⟨rfl, rfl⟩ := hev; exact hQ K' σ' a' w' g1 g2 g3 g4
          · obtain ⟨rfl, rfl⟩ := hev; exact hQ K' σ' a' w' g1 g2 g3 g4
  | cond x y z ihy ihz =>
    intro r hr hwf s s' ex K σ a w hg hev Q hQ
    simp only [rCode] at hr
    cases hx : rOpd C x with
    | none => simp [hx] at hr
    | some rx => cases hy : rCode C f nt y with
      | none => simp [hx, hy] at hr
      | some ry => cases hz : rCode C f nt z with
        | none => simp [hx, hy, hz] at hr
        | some rz =>
          simp only [hx, hy, hz, Option.some.injEq] at hr; subst hr
          simp only [wfR, Bool.and_eq_true] at hwf
          simp only [evC] at hev
          have hrel := rOpd_rel hg.env hg.glob hx
          generalize rx.ev s.env = p at *
          generalize hX : a.eval x = X at *
          cases hrel <;> simp only [reduceCtorEq] at hev
          rename_i t
          cases t
          · exact wp_cond_false hX (ihz rz hz hwf.2 s s' ex K σ a w hg hev Q hQ)
          · exact wp_cond_true hX (ihy ry hy hwf.1 s s' ex K σ a w hg hev Q hQ)
  | block id b ih =>
    intro r hr hwf s s' ex K σ a w hg hev Q hQ
    simp only [rCode] at hr
    cases hb : rCode C f nt b with
    | none => simp [hb] at hr
    | some rb =>
      simp only [hb, Option.some.injEq] at hr; subst hr
      simp only [evC] at hev
      cases h1 : evC orc n rb s with
      | none => simp [h1] at hev
      | some p =>
        obtain ⟨e1, s1⟩ := p
        refine wp_block (ih rb hb hwf s s1 e1 K σ a w hg h1 _ fun K' σ' a' w' g1 g2 g3 g4 => ?_)
        cases e1 <;> simp only [h1] at hev
        · simp only [Option.some.injEq, Prod.mk.injEq] at hev; obtain ⟨rfl, rfl⟩ := hev; exact hQ K' σ' a' w' g1 g2 g3 g4
        · rename_i i
          cases hi : Nat.beq i id with
          | true =>
            obtain rfl := Nat.eq_of_beq_eq_true hi
            simp only [hi, cond_true, Option.some.injEq, Prod.mk.injEq] at hev
            obtain ⟨rfl, rfl⟩ := hev
            simp only [exOf, Exit.inBlock, if_true]
            exact hQ K' σ' a' w' g1 g2 g3 g4
          | false =>
            have hne : i ≠ id := fun e => by subst e; simp at hi
            simp only [hi, cond_false, Option.some.injEq, Prod.mk.injEq] at hev
            obtain ⟨rfl, rfl⟩ := hev
            simp only [exOf, Exit.inBlock, if_neg hne]
            exact hQ K' σ' a' w' g1 g2 g3 g4
        · simp only [Option.some.injEq, Prod.mk.injEq] at hev; obtain ⟨rfl, rfl⟩ := hev; exact hQ K' σ' a' w' g1 g2 g3 g4
  | loop b ih =>
    intro r hr hwf s s' ex K σ a w hg hev Q hQ
    simp only [rCode] at hr
    cases hb : rCode C f nt b with
    | none => simp [hb] at hr
    | some rb =>
      simp only [hb] at hr
      split at hr
      · simp only [Option.some.injEq] at hr; subst hr
        simp only [wfR] at hwf
        simp only [evC] at hev
        let I : Nat → Act → World → Prop := fun k a1 w1 => ∃ K1 σ1 s1, Good C nt K1 σ1 s1 a1 w1 ∧ ExtW K σ s.h w K1 σ1 s1.h w1 ∧ (∀ l, l < s.h.next → σ1 l = σ l) ∧ s.h.next ≤ s1.h.next ∧
          iter (evC orc n rb) (fun s' => s') k s1 = some (ex, s')
        refine wp_loop_ghost I n ⟨K, σ, s, hg, ExtW.refl _ _ _ _, fun _ _ => rfl, Nat.le_refl _, hev⟩ ?_
        rintro k a1 w1 ⟨K1, σ1, s1, g1, g2, g3, g4, g5⟩
        cases k with
        | zero => simp [iter] at g5
        | succ k =>
          simp only [iter] at g5
          cases h1 : evC orc n rb s1 with
          | none => simp [h1] at g5
          | some p =>
            obtain ⟨e1, s2⟩ := p
            refine ih rb hb hwf _ s2 e1 K1 σ1 a1 w1 g1 h1 _ fun K' σ' a' w' r1 r2 r3 r4 => ?_
            have ext : ExtW K σ s.h w K' σ' s2.h w' := g2.trans r2
            have sig : ∀ l, l < s.h.next → σ' l = σ l := fun l hl => by rw [r3 l (by omega), g3 l hl]
            cases e1 <;> simp only [h1] at g5
            · exact ⟨k, Nat.lt_succ_self k, K', σ', s2, r1, ext, sig, by omega, g5⟩
            · simp only [Option.some.injEq, Prod.mk.injEq] at g5; obtain ⟨rfl, rfl⟩ := g5; exact hQ K' σ' a' w' r1 ext sig (by omega)
            · simp only [Option.some.injEq, Prod.mk.injEq] at g5; obtain ⟨rfl, rfl⟩ := g5; exact hQ K' σ' a' w' r1 ext sig (by omega)
      simp only [Option.some.injEq] at hr; subst hr
      generalize hws : (writesR rb).eraseDups = ws at *
      generalize hlive : C.live f (firstRegion b) = live at *
      have hwf0 := hwf
      simp only [wfR, Bool.and_eq_true] at hwf
      obtain ⟨hw1, hw2, hw3, hw4⟩ := hwf
      simp only [evC] at hev
      have hbd : ∀ k, k ∉ ws → purge s.h.next (s.env k) = s.env k := fun k _ => purge_id (hg.env k) hg.fresh
      let I : Nat → Act → World → Prop := fun k a1 w1 => ∃ K1 σ1 s1, Good C nt K1 σ1 s1 a1 w1 ∧ ExtW K σ s.h w K1 σ1 s1.h w1 ∧ (∀ l, l < s.h.next → σ1 l = σ l) ∧ (∀ k, k ∉ ws → s1.env k = s.env k) ∧
        iter (evC orc n rb) (fun s' => headSt ws live s.env s.h.next (canon live s.h.next s').1 (canon live s.h.next s').2) k s1 = some (ex, s')
      refine wp_loop_ghost I n ⟨K, σ, s, hg, ExtW.refl _ _ _ _, fun _ _ => rfl, fun _ _ => rfl, hev⟩ ?_
      rintro k a1 w1 ⟨K1, σ1, s1, g1, g2, g3, g4, g5⟩
      cases k with
      | zero => simp [iter] at g5
      | succ k =>
        simp only [iter] at g5
        obtain ⟨σ2, q1, q2, q3⟩ := head_sound g1 (ws := ws) (live := live) (env0 := s.env) (n0 := s.h.next) g4 hbd
        cases h1 : evC orc n rb (headSt ws live s.env s.h.next (canon live s.h.next s1).1 (canon live s.h.next s1).2) with
        | none => simp [h1] at g5
        | some p =>
          obtain ⟨e1, s2⟩ := p
          refine ih rb hb hw1 _ s2 e1 K1 σ2 a1 w1 q1 h1 _ fun K' σ' a' w' r1 r2 r3 r4 => ?_
          have hnx : (headSt ws live s.env s.h.next (canon live s.h.next s1).1 (canon live s.h.next s1).2).h.next = s.h.next + live.length := rfl
          rw [hnx] at r3 r4
          have ext : ExtW K σ s.h w K' σ' s2.h w' := (g2.trans q2).trans r2
          have sig : ∀ l, l < s.h.next → σ' l = σ l := fun l hl => by rw [r3 l (by omega), q3 l hl, g3 l hl]
          have env : ∀ k, k ∉ ws → s2.env k = s.env k := fun k hk => by
            rw [evC_env rb _ s2 e1 hw1 h1 k (fun hm => hk (by have := List.all_eq_true.1 hw2 k hm; simpa using this))]
            simp only [headSt, headEnv]
            have hkl : k ∉ live := fun hkl => hk (by have := List.all_eq_true.1 hw3 k hkl; simpa using this)
            rw [pick1_none live _ k _ hkl]
            have : ws.any (Nat.beq k) = false := by
              rw [List.any_eq_false]
              intro x hx
              simp [beq_false_of_ne (fun e : k = x => hk (e ▸ hx))]
            simp [this]
          cases e1 <;> simp only [h1] at g5
          · exact ⟨k, Nat.lt_succ_self k, K', σ', s2, r1, ext, sig, env, g5⟩
          · simp only [Option.some.injEq, Prod.mk.injEq] at g5; obtain ⟨rfl, rfl⟩ := g5; exact hQ K' σ' a' w' r1 ext sig (by omega)
          · simp only [Option.some.injEq, Prod.mk.injEq] at g5; obtain ⟨rfl, rfl⟩ := g5; exact hQ K' σ' a' w' r1 ext sig (by omega)
  | _ => intro r hr; simp [rCode] at hr
end
end Go.Proofs.YtnibcojenlijgaaGreatDoor.Ev
