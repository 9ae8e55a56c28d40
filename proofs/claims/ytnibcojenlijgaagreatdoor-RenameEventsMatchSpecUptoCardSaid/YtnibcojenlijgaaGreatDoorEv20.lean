/- Regions that draw their order: the region is sound. No condition. -/
import Derived.Test.YtnibcojenlijgaaGreatDoorEv19
set_option linter.unusedVariables false
set_option linter.unusedSimpArgs false
namespace Go.Proofs.YtnibcojenlijgaaGreatDoor.Ev
open Go Go.RowKit
variable {C : Cfg}

def evSeq (orc : Orc) (base : Nat) (rs : List ROp) : List Nat → St → Option St
  | [], s => some s
  | i :: is, s => match rs[i]? with
    | some r => match ev1 orc (base + i) r s with
      | some s1 => evSeq orc base rs is s1
      | none => none
    | none => none

theorem dst_mem {rs : List ROp} : ∀ {r : ROp} {d : Nat}, r ∈ rs → r.dst = some d → d ∈ dstsOf rs := by
  induction rs with
  | nil => intro r d h; cases h
  | cons x xs ih =>
    intro r d h hd
    simp only [dstsOf]
    cases List.mem_cons.1 h with
    | inl h => subst h; rw [hd]; exact List.mem_cons_self ..
    | inr h => split <;> first | exact List.mem_cons_of_mem _ (ih h hd) | exact ih h hd

/-- The pair may change places. -/
def PairOK (n0 : Nat) (e : Env) (rs : List ROp) (p i : Nat) : Prop :=
  ∀ x y, rs[p]? = some x → rs[i]? = some y → apartR x y = true ∧ (compat (fpOf n0 (dstsOf rs) e x.op) (fpOf n0 (dstsOf rs) e y.op) = true ∨ noHeap x.op = true ∨ noHeap y.op = true)

structure InvR (base : Nat) (rs : List ROp) (e0 : Env) (L : List Nat) (s : St) : Prop where
  env : ∀ t, t ∉ dstsOf rs → s.env t = e0 t
  none : ∀ i ∈ L, s.h.get (base + i) = none

theorem InvR.step {orc : Orc} {base : Nat} {rs : List ROp} {e0 : Env} {L : List Nat} {s s1 : St} {i : Nat} {r : ROp} (h : InvR base rs e0 L s) (hr : rs[i]? = some r) (h1 : ev1 orc (base + i) r s = some s1) {L' : List Nat} (hL : ∀ k ∈ L', k ∈ L ∧ k ≠ i) : InvR base rs e0 L' s1 := by
  obtain ⟨u, u1, u2, _⟩ := ev1_shape h1
  refine ⟨fun t ht => ?_, fun k hk => u2 _ (by have := (hL k hk).2; omega) (h.none k (hL k hk).1)⟩
  rw [u1, updO_other (t := t) fun k hk (e : k = t) => ht (e ▸ dst_mem (List.mem_of_getElem? hr) hk)]
  exact h.env t ht

theorem toFront {orc : Orc} {base n0 : Nat} {rs : List ROp} {e0 : Env} {i : Nat} {l2 : List Nat} {s' : St} (hn0 : n0 ≤ base) : ∀ (l1 : List Nat) (s : St), (l1 ++ i :: l2).Nodup → (∀ p ∈ l1, PairOK n0 e0 rs p i) → InvR base rs e0 (l1 ++ i :: l2) s → evSeq orc base rs (l1 ++ i :: l2) s = some s' →
    ∃ r s1, rs[i]? = some r ∧ ev1 orc (base + i) r s = some s1 ∧ evSeq orc base rs (l1 ++ l2) s1 = some s' := by
  intro l1
  induction l1 with
  | nil =>
    intro s hnd hp hI hev
    simp only [List.nil_append, evSeq] at hev
    cases hr : rs[i]? with
    | none => rw [hr] at hev; cases hev
    | some r =>
      rw [hr] at hev
      simp only at hev
      cases h1 : ev1 orc (base + i) r s with
      | none => rw [h1] at hev; cases hev
      | some s1 => rw [h1] at hev; exact ⟨r, s1, rfl, h1, hev⟩
  | cons p l1 ih =>
    intro s hnd hp hI hev
    simp only [List.cons_append, evSeq] at hev
    cases hx : rs[p]? with
    | none => rw [hx] at hev; cases hev
    | some x =>
      rw [hx] at hev
      simp only at hev
      cases h1 : ev1 orc (base + p) x s with
      | none => rw [h1] at hev; cases hev
      | some sp =>
        rw [h1] at hev
        simp only at hev
        simp only [List.cons_append, List.nodup_cons] at hnd
        obtain ⟨r, s2, hr, h2, h3⟩ := ih sp hnd.2 (fun q hq => hp q (List.mem_cons_of_mem _ hq)) (hI.step hx h1 fun k hk => ⟨List.mem_cons_of_mem _ hk, fun e => hnd.1 (e ▸ hk)⟩) hev
        obtain ⟨ap, cp⟩ := hp p (List.mem_cons_self ..) x r hx hr
        have hpi : p ≠ i := fun e => hnd.1 (by rw [e]; simp)
        obtain ⟨s1', q1, q2⟩ := swap_any (n0 := n0) (ins := dstsOf rs) (e0 := e0) ap (by omega) (by omega) (by omega) cp hI.env (fun d hd => dst_mem (List.mem_of_getElem? hx) hd) (hI.none i (by simp)) h1 h2
        refine ⟨r, s1', hr, q1, ?_⟩
        simp only [List.cons_append, evSeq, hx, q2]
        exact h3

theorem evOps_seq {orc : Orc} {base : Nat} {rs : List ROp} {s' : St} : ∀ (m k : Nat) (s : St), k + m = rs.length → evOps orc (base + k) (rs.drop k) s = some s' →
    ∃ s'', evSeq orc base rs (List.range' k m) s = some s'' ∧ s'.env = s''.env ∧ s'.h.blk = s''.h.blk ∧ s'.h.next = base + rs.length := by
  intro m
  induction m with
  | zero =>
    intro k s hk hev
    rw [List.drop_of_length_le (by omega)] at hev
    simp only [evOps, Option.some.injEq] at hev
    subst hev
    exact ⟨s, rfl, rfl, rfl, by simp only; omega⟩
  | succ m ih =>
    intro k s hk hev
    have hlt : k < rs.length := by omega
    rw [List.drop_eq_getElem_cons hlt] at hev
    simp only [evOps] at hev
    cases h1 : ev1 orc (base + k) rs[k] s with
    | none => rw [h1] at hev; cases hev
    | some s1 =>
      rw [h1] at hev
      simp only at hev
      obtain ⟨s'', g1, g2⟩ := ih (k + 1) s1 (by omega) hev
      refine ⟨s'', ?_, g2⟩
      rw [List.range'_succ]
      simp only [evSeq, List.getElem?_eq_getElem hlt, h1]
      exact g1

/-! ### The ancestors -/
theorem foldl_anc {A : List (List Nat)} {p : Nat} : ∀ (es : List Edge) (acc : List Nat), p ∈ es.foldl (fun s e => if Region.binds .any e then e.on :: ((A[e.on]?).getD [] ++ s) else s) acc →
    p ∈ acc ∨ ∃ e ∈ es, Region.binds .any e = true ∧ (p = e.on ∨ p ∈ (A[e.on]?).getD []) := by
  intro es
  induction es with
  | nil => intro acc h; exact .inl h
  | cons e es ih =>
    intro acc h
    simp only [List.foldl_cons] at h
    rcases ih _ h with h | ⟨e', h1, h2⟩
    · split at h
      · rename_i hb
        simp only [List.mem_cons, List.mem_append] at h
        rcases h with h | h | h
        · exact .inr ⟨e, List.mem_cons_self .., hb, .inl h⟩
        · exact .inr ⟨e, List.mem_cons_self .., hb, .inr h⟩
        · exact .inl h
      · exact .inl h
    · exact .inr ⟨e', List.mem_cons_of_mem _ h1, h2⟩
theorem ancs_pre : ∀ (os : List Oper) (acc : List (List Nat)), ∃ t, ancs os acc = acc ++ t ∧ t.length = os.length := by
  intro os
  induction os with
  | nil => intro acc; exact ⟨[], by simp [ancs], rfl⟩
  | cons o os ih =>
    intro acc
    simp only [ancs]
    obtain ⟨t, h1, h2⟩ := ih (acc ++ [o.after.toList.foldl (fun s e => if Region.binds .any e then e.on :: ((acc[e.on]?).getD [] ++ s) else s) []])
    exact ⟨_ :: t, by rw [h1, List.append_assoc]; rfl, by simp [h2]⟩
theorem ancs_spec : ∀ (os : List Oper) (acc : List (List Nat)) (k : Nat) (o : Oper) (p : Nat), os[k]? = some o → p ∈ ((ancs os acc)[acc.length + k]?).getD [] →
    ∃ e ∈ o.after.toList, Region.binds .any e = true ∧ (p = e.on ∨ p ∈ ((ancs os acc)[e.on]?).getD []) := by
  intro os
  induction os with
  | nil => intro acc k o p h; cases h
  | cons x os ih =>
    intro acc k o p ho hp
    simp only [ancs] at hp ⊢
    generalize hx : x.after.toList.foldl (fun s e => if Region.binds .any e then e.on :: ((acc[e.on]?).getD [] ++ s) else s) [] = X at *
    cases k with
    | zero =>
      simp only [List.getElem?_cons_zero, Option.some.injEq] at ho
      subst ho
      obtain ⟨t, h1, h2⟩ := ancs_pre os (acc ++ [X])
      have hX : p ∈ X := by
        rw [h1] at hp
        simpa using hp
      rw [← hx] at hX
      rcases foldl_anc _ _ hX with h | ⟨e, e1, e2, e3⟩
      · cases h
      · refine ⟨e, e1, e2, e3.imp id fun h => ?_⟩
        rw [h1, List.append_assoc]
        cases hl : acc[e.on]? with
        | none => rw [hl] at h; cases h
        | some y =>
          rw [hl] at h
          rw [List.getElem?_append_left (List.getElem?_eq_some_iff.1 hl).1, hl]
          exact h
    | succ k =>
      have := ih (acc ++ [X]) k o p (by simpa using ho) (by
        rw [List.length_append, List.length_singleton, show acc.length + 1 + k = acc.length + (k + 1) from by omega]
        exact hp)
      exact this
theorem openPairs_mem {an : List (List Nat)} {n p i : Nat} (hp : p < i) (hi : i < n) (h : p ∉ (an[i]?).getD []) : (p, i) ∈ openPairs an n := by
  simp only [openPairs, List.mem_flatMap, List.mem_filterMap, List.mem_range]
  exact ⟨i, hi, p, hp, by simp [h]⟩

/-! ### What is not yet listed -/
def restL (n : Nat) (listed : Array Bool) : List Nat := (List.range n).filter fun i => !listed.getD i true
theorem restL_mem {n : Nat} {listed : Array Bool} {i : Nat} : i ∈ restL n listed ↔ i < n ∧ listed.getD i true = false := by simp [restL]
theorem restL_sorted (n : Nat) (listed : Array Bool) : (restL n listed).Pairwise (· < ·) := List.Pairwise.filter _ (List.pairwise_lt_range)
theorem restL_nodup (n : Nat) (listed : Array Bool) : (restL n listed).Nodup := (restL_sorted n listed).imp fun h => Nat.ne_of_lt h
theorem restL_set {n : Nat} {listed : Array Bool} {i : Nat} (hs : listed.size = n) (hi : i < n) {l1 l2 : List Nat} (h : restL n listed = l1 ++ i :: l2) : restL n (listed.setIfInBounds i true) = l1 ++ l2 := by
  have hnd := restL_nodup n listed
  rw [h] at hnd
  have e1 : restL n (listed.setIfInBounds i true) = (restL n listed).filter fun k => k != i := by
    simp only [restL, List.filter_filter]
    apply List.filter_congr
    intro k hk
    have hk' : k < n := by simpa using hk
    by_cases hki : i = k
    · subst hki; simp [Array.getD, hs, hi]
    · have : (k != i) = true := by simp; omega
      rw [this]
      simp [Array.getD, hs, hk', Array.getElem_setIfInBounds, hki]
  rw [e1, h, List.filter_append, List.filter_cons]
  simp only [bne_self_eq_false, Bool.false_eq_true, if_false]
  have hnm : ∀ k ∈ l1 ++ l2, k ≠ i := fun k hk e => by
    subst e
    rw [List.nodup_append] at hnd
    obtain ⟨_, n2, n3⟩ := hnd
    rw [List.nodup_cons] at n2
    rcases List.mem_append.1 hk with hk | hk
    · exact n3 k hk k (List.mem_cons_self ..) rfl
    · exact n2.1 hk
  rw [List.filter_eq_self.2 fun k hk => by simpa using hnm k (List.mem_append.2 (.inl hk)), List.filter_eq_self.2 fun k hk => by simpa using hnm k (List.mem_append.2 (.inr hk))]
end Go.Proofs.YtnibcojenlijgaaGreatDoor.Ev
