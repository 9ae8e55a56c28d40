/- Regions that draw their order: sound. No condition. -/
import Derived.Test.YtnibcojenlijgaaGreatDoorEv20
set_option linter.unusedVariables false
set_option linter.unusedSimpArgs false
namespace Go.Proofs.YtnibcojenlijgaaGreatDoor.Ev
open Go Go.RowKit
variable {C : Cfg}

theorem evSeq_mem {orc : Orc} {base : Nat} {rs : List ROp} : ∀ {L : List Nat} {s s' : St}, evSeq orc base rs L s = some s' → ∀ i ∈ L, i < rs.length := by
  intro L
  induction L with
  | nil => intro s s' _ i h; cases h
  | cons k L ih =>
    intro s s' h i hi
    simp only [evSeq] at h
    cases hr : rs[k]? with
    | none => rw [hr] at h; cases h
    | some r =>
      rw [hr] at h
      simp only at h
      cases h1 : ev1 orc (base + k) r s with
      | none => rw [h1] at h; cases h
      | some s1 =>
        rw [h1] at h
        cases List.mem_cons.1 hi with
        | inl e => subst e; exact (List.getElem?_eq_some_iff.1 hr).1
        | inr hi => exact ih h i hi

theorem getD_up {A : Array Bool} {i q : Nat} (h : A.getD q true = true) : (A.setIfInBounds i true).getD q true = true := by
  by_cases hs : q < A.size
  · have h' : A[q] = true := by simpa [Array.getD, hs] using h
    by_cases hq : i = q <;> simp [Array.getD, hs, Array.getElem_setIfInBounds, hq, h']
  · simp [Array.getD, hs]
theorem getD_down {A : Array Bool} {i q : Nat} (hs : q < A.size) (hq : q ≠ i) (h : (A.setIfInBounds i true).getD q true = true) : A.getD q true = true := by
  have hq' : ¬ i = q := fun e => hq e.symm
  simpa [Array.getD, hs, Array.getElem_setIfInBounds, hq'] using h

theorem wpAny_ok {orc : Orc} (hO : OrcOK C orc) {f : FuncId} {nt : Nat} {ops : Array Oper} {rs : List ROp} (hlen : rs.length = ops.size) (hro : ∀ (i : Nat) o r, ops[i]? = some o → rs[i]? = some r → ROf C f nt ops o r)
    (hdown : edgesDown ops = true) {n0 base : Nat} {e0 : Env} (hn0 : n0 ≤ base) (hpair : ∀ p i, (p, i) ∈ openPairs (ancs ops.toList []) ops.size → PairOK n0 e0 rs p i) {Q : Exit → Act → World → Prop} {s'' : St} :
    ∀ (fuel : Nat) (listed : Array Bool) (s : St) (K : Kn) (σ : Sg) (a : Act) (w : World), listed.size = ops.size → (restL ops.size listed).length ≤ fuel →
      (∀ j, j < ops.size → listed.getD j true = true → ∀ p ∈ ((ancs ops.toList [])[j]?).getD [], listed.getD p true = true) →
      InvR base rs e0 (restL ops.size listed) s → Sim K σ s.h w → EnvR K σ s.env a.tmps → GlobOK C K → nt ≤ a.tmps.size → a.defers = [] → (∀ i ∈ restL ops.size listed, σ (base + i) = none) → (∀ l, base + ops.size ≤ l → σ l = none) →
      evSeq orc base rs (restL ops.size listed) s = some s'' →
      (∀ K' σ' a' w', Sim K' σ' s''.h w' → EnvR K' σ' s''.env a'.tmps → GlobOK C K' → nt ≤ a'.tmps.size → a'.defers = [] → (∀ l, base + ops.size ≤ l → σ' l = none) → Ext K σ s.h w K' σ' s''.h w' → (∀ l, l < base → σ' l = σ l) → Q .normal a' w') →
      wpAny C.P .any ops Q fuel listed a w := by
  have hready : ∀ listed i, i ∈ Region.ready .any ops listed → ∃ o, ops[i]? = some o ∧ i ∈ restL ops.size listed ∧ ∀ e ∈ o.after.toList, Region.binds .any e = true → listed.getD e.on false = true := fun listed i hi => by
    simp only [Region.ready, List.mem_filter, List.mem_range, Bool.and_eq_true, Bool.not_eq_true'] at hi
    obtain ⟨h1, h2, h3⟩ := hi
    have ho : ops[i]? = some ops[i] := Array.getElem?_eq_getElem h1
    rw [ho] at h3
    simp only [Option.map_some, Option.getD_some, Array.all_eq_true_iff_forall_mem] at h3
    refine ⟨_, ho, restL_mem.2 ⟨h1, h2⟩, fun e he hb => ?_⟩
    have := h3 e (by simpa using he)
    rw [hb] at this
    simpa using this
  intro fuel
  induction fuel with
  | zero =>
    intro listed s K σ a w hsz hlen0 hdn hI hS hE hG hnt hd hσ hσ2 hev hQ
    have hnil : restL ops.size listed = [] := List.length_eq_zero_iff.1 (by omega)
    rw [hnil] at hev
    simp only [evSeq, Option.some.injEq] at hev
    subst hev
    refine ⟨?_, hQ K σ a w hS hE hG hnt hd hσ2 (Ext.refl _ _ _ _) fun _ _ => rfl⟩
    cases hr : Region.ready .any ops listed with
    | nil => rfl
    | cons x xs =>
      obtain ⟨o, _, hm, _⟩ := hready listed x (by rw [hr]; exact List.mem_cons_self ..)
      rw [hnil] at hm
      cases hm
  | succ fuel ih =>
    intro listed s K σ a w hsz hlen0 hdn hI hS hE hG hnt hd hσ hσ2 hev hQ
    refine ⟨fun hr => ?_, fun i hi => ?_⟩
    · cases hL : restL ops.size listed with
      | nil =>
        rw [hL] at hev
        simp only [evSeq, Option.some.injEq] at hev
        subst hev
        exact hQ K σ a w hS hE hG hnt hd hσ2 (Ext.refl _ _ _ _) fun _ _ => rfl
      | cons j L =>
        exfalso
        have hj : j < ops.size ∧ listed.getD j true = false := restL_mem.1 (by rw [hL]; exact List.mem_cons_self ..)
        have hso := restL_sorted ops.size listed
        rw [hL, List.pairwise_cons] at hso
        have hin : j ∈ Region.ready .any ops listed := by
          simp only [Region.ready, List.mem_filter, List.mem_range, Bool.and_eq_true, Bool.not_eq_true']
          refine ⟨hj.1, hj.2, ?_⟩
          rw [Array.getElem?_eq_getElem hj.1]
          simp only [Option.map_some, Option.getD_some, Array.all_eq_true_iff_forall_mem]
          intro e he
          cases hb : Region.binds .any e with
          | false => rfl
          | true =>
            have hlt : e.on < j := by
              have h1 : ops.zipIdx.all (fun (x : Oper × Nat) => x.1.after.all fun e => !Region.binds .any e || decide (e.on < x.2)) = true := hdown
              rw [Array.all_eq_true_iff_forall_mem] at h1
              have h2 := h1 (ops[j], j) (by
                rw [Array.mem_iff_getElem]
                exact ⟨j, by simpa using hj.1, by simp⟩)
              rw [Array.all_eq_true_iff_forall_mem] at h2
              have h3 := h2 e he
              rw [hb] at h3
              simpa using h3
            simp only [Bool.not_true, Bool.false_or]
            cases hg : listed.getD e.on true with
            | true => 
              have : e.on < listed.size := by omega
              simp only [Array.getD, this, dif_pos] at hg ⊢
              exact hg
            | false =>
              exfalso
              have hm : e.on ∈ restL ops.size listed := restL_mem.2 ⟨by omega, hg⟩
              rw [hL] at hm
              cases List.mem_cons.1 hm with
              | inl h => omega
              | inr h => have := hso.1 _ h; omega
        rw [hr] at hin
        cases hin
    · obtain ⟨o, ho, hm, hdep⟩ := hready listed i hi
      obtain ⟨l1, l2, hL⟩ := List.append_of_mem hm
      have hi2 := restL_mem.1 hm
      have hnd := restL_nodup ops.size listed
      have hso := restL_sorted ops.size listed
      rw [hL] at hnd hso hev hI
      have hdepA : ∀ p ∈ ((ancs ops.toList [])[i]?).getD [], listed.getD p true = true := fun p hp => by
        have hgt : ∀ q, listed.getD q false = true → q < ops.size ∧ listed.getD q true = true := fun q hq => by
          by_cases hlt : q < listed.size
          · refine ⟨by omega, ?_⟩
            simp only [Array.getD, hlt, dif_pos] at hq ⊢
            exact hq
          · simp [Array.getD, hlt] at hq
        obtain ⟨e, e1, e2, e3⟩ := ancs_spec ops.toList [] i o p (by simpa using ho) (by simpa using hp)
        obtain ⟨q1, q2⟩ := hgt _ (hdep e e1 e2)
        rcases e3 with e3 | e3
        · rw [e3]; exact q2
        · exact hdn _ q1 q2 p e3
      obtain ⟨r, s1, hr, h1, h2⟩ := toFront hn0 l1 s hnd (fun p hp => hpair p i (openPairs_mem (by
          rw [List.pairwise_append] at hso
          exact hso.2.2 p hp i (List.mem_cons_self ..)) hi2.1 fun hin => by
            have hf : listed.getD p true = false := (restL_mem.1 (by rw [hL]; exact List.mem_append.2 (.inl hp))).2
            rw [hdepA p hin] at hf; cases hf)) hI hev
      have hset := restL_set hsz hi2.1 hL
      have hsub : ∀ k ∈ l1 ++ l2, k ∈ restL ops.size listed ∧ k ≠ i := fun k hk => by
        rw [hL]
        rw [List.nodup_append, List.nodup_cons] at hnd
        obtain ⟨_, ⟨n2, _⟩, n3⟩ := hnd
        rcases List.mem_append.1 hk with hk | hk
        · exact ⟨List.mem_append.2 (.inl hk), fun e => n3 k hk i (List.mem_cons_self ..) e⟩
        · exact ⟨List.mem_append.2 (.inr (List.mem_cons_of_mem _ hk)), fun e => n2 (e ▸ hk)⟩
      have key := ev1_sound hO (hro i o r ho hr) hS hE hG hnt (hσ i hm) h1 (N := wpAny C.P .any ops Q fuel (listed.setIfInBounds i true)) (Q := Q) (fun V w' K' σ' g1 g2 g3 g4 =>
        ih (listed.setIfInBounds i true) s1 K' σ' (a.put o.dst V) w' (by simpa using hsz)
          (by rw [hset]; rw [hL] at hlen0; simp only [List.length_append, List.length_cons] at hlen0 ⊢; omega)
          (fun j hj hjl p hp => by
            by_cases hji : j = i
            · subst hji; exact getD_up (hdepA p hp)
            · exact getD_up (hdn j hj (getD_down (by omega) hji hjl) p hp))
          (by rw [hset]; exact hI.step hr h1 fun k hk => by have := hsub k hk; rw [hL] at this; exact this)
          g1 g2 (hG.mono g3.kle) (by rw [put_size]; exact hnt) (by rw [put_defers']; exact hd)
          (by rw [hset]; intro k hk; obtain ⟨k1, k2⟩ := hsub k hk; rw [g4 (base + k) (by omega)]; exact hσ k k1)
          (fun l hl => by rw [g4 l (by omega)]; exact hσ2 l hl)
          (by rw [hset]; exact h2)
          (fun K2 σ2 a2 w2 q1 q2 q3 q4 q5 q6 q7 q8 => hQ K2 σ2 a2 w2 q1 q2 q3 q4 q5 q6 (g3.trans q7) (fun l hl => by rw [q8 l hl, g4 l (by omega)])))
      unfold wpOp
      rw [ho]
      simp only
      split at key
      · rename_i hw; rw [if_pos hw]; exact .inl key
      · rename_i hw; rw [if_neg hw]; exact key

theorem draw_ok (hm : C.P.follows .mixedOrders = true) {orc : Orc} (hO : OrcOK C orc) : DrawOK C orc := by
  intro f nt id ops rs ps hr s s' K σ a w hg hp hev Q hQ
  unfold rRegion at hr
  cases hmo : mapO (rROp C f nt ops) ops.toList with
  | none => simp [hmo] at hr
  | some rs' =>
    simp only [hmo, if_true] at hr
    split at hr
    · rename_i hcond
      simp only [Option.some.injEq, RC.dops.injEq] at hr
      obtain ⟨rfl, rfl⟩ := hr
      rw [Bool.and_eq_true] at hcond
      obtain ⟨hdown, hap⟩ := hcond
      obtain ⟨m1, m2⟩ := mapO_some hmo
      have hlen : rs'.length = ops.size := by rw [m1]; simp
      refine wp_region_any hm ?_
      obtain ⟨s'', q1, q2, q3, q4⟩ := evOps_seq (orc := orc) (base := s.h.next) (rs := rs') (s' := s') rs'.length 0 s (by omega) (by simpa using hev)
      have hrest : restL ops.size (Array.replicate ops.size false) = List.range' 0 rs'.length := by
        rw [hlen, ← List.range_eq_range']
        exact List.filter_eq_self.2 fun i hi => by simp [Array.getD, List.mem_range.1 hi]
      have hnone : ∀ l, s.h.next ≤ l → s.h.get l = none := fun l hl => by
        cases hq : s.h.get l with
        | none => rfl
        | some B => obtain ⟨x, _, _, hx, _⟩ := hg.sim.bk l B hq; rw [hg.fresh l hl] at hx; cases hx
      have e1 : ∀ {K' σ' h' w'}, Ext K σ s.h { w with drawn := w.drawn + 1 } K' σ' h' w' → Ext K σ s.h w K' σ' h' w' := fun e => ⟨e.kle, e.sle, e.size, e.keep, e.kold, e.own, e.os, e.tape, e.output, e.frozen⟩
      refine wpAny_ok hO (f := f) (nt := nt) (rs := rs') hlen (fun i o r ho hri => ?_) hdown (n0 := s.h.next) (base := s.h.next) (e0 := s.env) (Nat.le_refl _) (fun p i hmem => ?_) (s'' := s'') ops.size _ s K σ a _ (by simp)
        (by rw [hrest]; simp; omega) (fun j hj hl => by simp [Array.getD, hj] at hl) ⟨fun _ _ => rfl, fun i hi => hnone _ (by omega)⟩ ⟨hg.sim.kn, hg.sim.bk, hg.sim.dj⟩ hg.env hg.glob hg.size hg.defers (fun i hi => hg.fresh _ (by omega)) (fun l hl => hg.fresh _ (by omega)) (by rw [hrest]; exact q1) ?_
      · obtain ⟨y, g1, g2⟩ := m2 i o (by simpa using ho)
        rw [hri] at g1; cases g1
        exact rROp_some g2
      · intro x y hx hy
        have h1 := List.all_eq_true.1 hap (p, i) hmem
        simp only [hx, hy] at h1
        refine ⟨h1, ?_⟩
        cases hn : (noHeap x.op || noHeap y.op) with
        | true => rw [Bool.or_eq_true] at hn; exact .inr hn
        | false =>
          have h2 := List.all_eq_true.1 hp (p, i) (List.mem_filter.2 ⟨hmem, by simp only [hx, hy, hn]; rfl⟩)
          simp only [hx, hy] at h2
          exact .inl h2
      · intro K' σ' a' w' g1 g2 g3 g4 g5 g6 g7 g8
        have hs' : s' = ⟨s''.env, ⟨s''.h.blk, s.h.next + rs'.length⟩⟩ := by
          obtain ⟨e', ⟨b', n'⟩⟩ := s'
          simp only at q2 q3 q4
          subst q2 q3 q4
          rfl
        subst hs'
        exact hQ K' σ' a' w' ⟨g1.nx, g2, g3, g4, g5, fun l hl => g6 l (by simp only at hl; omega)⟩ (e1 g7).nx.weak g8 (by simp only; omega)
    · cases hr
end Go.Proofs.YtnibcojenlijgaaGreatDoor.Ev
