/- Code: loops, calls, functions. No condition. -/
import Derived.Test.YtnibcojenlijgaaGreatDoorEv13
import Derived.Deep.LoopGhost
set_option linter.unusedVariables false
set_option linter.unusedSimpArgs false
namespace Go.Proofs.YtnibcojenlijgaaGreatDoor.Ev
open Go Go.RowKit

/-! ### Slots that a piece of code does not write -/
theorem ev1_env {orc : Orc} {fr : Nat} {o : ROp} {s s' : St} (h : ev1 orc fr o s = some s') {k : Nat} (hk : ∀ d, o.dst = some d → d ≠ k) : s'.env k = s.env k := by
  have put : ∀ v, updO s.env o.dst v k = s.env k := fun v => by
    cases hd : o.dst with
    | none => rfl
    | some d => simp [updO, upd, beq_false_of_ne (Ne.symm (hk d hd))]
  unfold ev1 at h
  cases hg : guardA s.env o.g with
  | none => simp [hg] at h
  | some b =>
    cases b with
    | false => simp only [hg, Option.some.injEq] at h; subst h; exact put _
    | true =>
      simp only [hg] at h
      cases hr : o.op.run orc s.env s.h fr with
      | none => simp [hr] at h
      | some vh => simp only [hr, Option.some.injEq] at h; subst h; exact put _
theorem evOps_env {orc : Orc} : ∀ (os : List ROp) (fr : Nat) (s s' : St), evOps orc fr os s = some s' → ∀ k, k ∉ dstsOf os → s'.env k = s.env k := by
  intro os
  induction os with
  | nil => intro fr s s' h k _; simp [evOps] at h; subst h; rfl
  | cons o os ih =>
    intro fr s s' h k hk
    simp only [evOps] at h
    cases h1 : ev1 orc fr o s with
    | none => simp [h1] at h
    | some s1 =>
      simp only [h1] at h
      have hk' : k ∉ dstsOf os ∧ ∀ d, o.dst = some d → d ≠ k := by
        simp only [dstsOf] at hk
        cases hd : o.dst with
        | none => simp only [hd] at hk; exact ⟨hk, fun d h => by cases h⟩
        | some d => simp only [hd, List.mem_cons, not_or] at hk; exact ⟨hk.2, fun d' h => by cases h; exact Ne.symm hk.1⟩
      rw [ih _ _ _ h k hk'.1, ev1_env h1 hk'.2]

theorem pick1_none : ∀ (live : List Nat) (vs : List AV) (k : Nat) (d : AV), k ∉ live → pick1 live vs k d = d := by
  intro live
  induction live with
  | nil => intro vs k d _; cases vs <;> rfl
  | cons t ts ih =>
    intro vs k d hk
    simp only [List.mem_cons, not_or] at hk
    cases vs with
    | nil => rfl
    | cons v vs => simp [pick1, beq_false_of_ne hk.1, ih vs k d hk.2]

/-- The carried slots are among the written ones. -/
def wfR : RC → Bool
  | .seq a b | .cond _ a b => wfR a && wfR b
  | .block _ b => wfR b
  | .rawloop b => wfR b
  | .loop ws live b => wfR b && ((writesR b).all ws.contains && (live.all ws.contains && ws.all (writesR b).contains))
  | _ => true

theorem evC_env {orc : Orc} {n : Nat} : ∀ (c : RC) (s s' : St) (ex : Ex), wfR c = true → evC orc n c s = some (ex, s') → ∀ k, k ∉ writesR c → s'.env k = s.env k := by
    intro c
    induction c with
    | skip => intro s s' ex _ h k _; simp [evC] at h; rw [← h.2]
    | ret => intro s s' ex _ h k _; simp [evC] at h; rw [← h.2]
    | exit id => intro s s' ex _ h k _; simp [evC] at h; rw [← h.2]
    | ops os =>
      intro s s' ex _ h k hk
      simp only [evC] at h
      cases h1 : evOps orc s.h.next os s with
      | none => simp [h1] at h
      | some s1 => simp only [h1, Option.some.injEq, Prod.mk.injEq] at h; rw [← h.2]; exact evOps_env os _ _ _ h1 k hk
    | dops os ps =>
      intro s s' ex _ h k hk
      simp only [evC] at h
      cases hp : pairsOK s.h.next s.env os ps with
      | false => simp [hp] at h
      | true =>
        simp only [hp, cond_true] at h
        cases h1 : evOps orc s.h.next os s with
        | none => simp [h1] at h
        | some s1 => simp only [h1, Option.some.injEq, Prod.mk.injEq] at h; rw [← h.2]; exact evOps_env os _ _ _ h1 k hk
    | seq a b iha ihb =>
      intro s s' ex hw h k hk
      simp only [wfR, Bool.and_eq_true] at hw
      simp only [writesR, List.mem_append, not_or] at hk
      simp only [evC] at h
      cases h1 : evC orc n a s with
      | none => simp [h1] at h
      | some r =>
        obtain ⟨e1, s1⟩ := r
        have := iha s s1 e1 hw.1 h1 k hk.1
        cases e1 <;> simp only [h1, Option.some.injEq, Prod.mk.injEq] at h
        · rw [ihb s1 s' ex hw.2 h k hk.2, this]
        · rw [← h.2, this]
        · rw [← h.2, this]
    | cond x a b iha ihb =>
      intro s s' ex hw h k hk
      simp only [wfR, Bool.and_eq_true] at hw
      simp only [writesR, List.mem_append, not_or] at hk
      simp only [evC] at h
      cases hx : x.ev s.env <;> simp only [hx, reduceCtorEq] at h
      rename_i t
      cases t
      · exact ihb s s' ex hw.2 h k hk.2
      · exact iha s s' ex hw.1 h k hk.1
    | block id b ih =>
      intro s s' ex hw h k hk
      simp only [evC] at h
      cases h1 : evC orc n b s with
      | none => simp [h1] at h
      | some r =>
        obtain ⟨e1, s1⟩ := r
        have := ih s s1 e1 hw h1 k hk
        cases e1 <;> simp only [h1] at h
        · simp only [Option.some.injEq, Prod.mk.injEq] at h; rw [← h.2, this]
        · rename_i i
          cases hb : Nat.beq i id <;> simp only [hb, cond_true, cond_false, Option.some.injEq, Prod.mk.injEq] at h <;> rw [← h.2, this]
        · simp only [Option.some.injEq, Prod.mk.injEq] at h; rw [← h.2, this]
    | loop ws live b ih =>
      intro s s' ex hw h k hk
      simp only [wfR, Bool.and_eq_true] at hw
      obtain ⟨hw1, _, hw3, hw4⟩ := hw
      simp only [writesR] at hk
      have hkw : k ∉ ws := fun hkw => by
        have := List.all_eq_true.1 hw4 k hkw
        exact hk (by simpa using this)
      have hkl : k ∉ live := fun hkl => by
        have := List.all_eq_true.1 hw3 k hkl
        exact hkw (by simpa using this)
      simp only [evC] at h
      have hd : ∀ vs bs, (headSt ws live s.env s.h.next vs bs).env k = s.env k := fun vs bs => by
        simp only [headSt, headEnv]
        rw [pick1_none live vs k _ hkl]
        have : ws.any (Nat.beq k) = false := by
          rw [List.any_eq_false]
          intro x hx
          simp [beq_false_of_ne (fun e : k = x => hkw (e ▸ hx))]
        simp [this]
      have it : ∀ (m : Nat) (s1 : St), iter (evC orc n b) (fun s' => headSt ws live s.env s.h.next (canon live s.h.next s').1 (canon live s.h.next s').2) m s1 = some (ex, s') → s'.env k = s.env k := by
        intro m
        induction m with
        | zero => intro s1 h; simp [iter] at h
        | succ m ihm =>
          intro s1 h
          simp only [iter] at h
          cases h1 : evC orc n b (headSt ws live s.env s.h.next (canon live s.h.next s1).1 (canon live s.h.next s1).2) with
          | none => simp [h1] at h
          | some r =>
            obtain ⟨e1, s2⟩ := r
            have := ih _ s2 e1 hw1 h1 k hk
            rw [hd] at this
            cases e1 <;> simp only [h1] at h
            · exact ihm s2 h
            · simp only [Option.some.injEq, Prod.mk.injEq] at h; rw [← h.2, this]
            · simp only [Option.some.injEq, Prod.mk.injEq] at h; rw [← h.2, this]
      exact it n s h
    | rawloop b ih =>
      intro s s' ex hw h k hk
      simp only [evC] at h
      have it : ∀ (m : Nat) (s1 : St), iter (evC orc n b) (fun s' => s') m s1 = some (ex, s') → s'.env k = s1.env k := by
        intro m
        induction m with
        | zero => intro s1 h; simp [iter] at h
        | succ m ihm =>
          intro s1 h
          simp only [iter] at h
          cases h1 : evC orc n b s1 with
          | none => simp [h1] at h
          | some r =>
            obtain ⟨e1, s2⟩ := r
            have := ih _ s2 e1 hw h1 k hk
            cases e1 <;> simp only [h1] at h
            · rw [ihm s2 h, this]
            · simp only [Option.some.injEq, Prod.mk.injEq] at h; rw [← h.2, this]
            · simp only [Option.some.injEq, Prod.mk.injEq] at h; rw [← h.2, this]
      exact it n s h

/-! ### The head of a loop -/
theorem alook_append (L M : List (Nat × Blk)) (l : Nat) : alook (L ++ M) l = match alook L l with | some b => some b | none => alook M l := by
  induction L with
  | nil => rfl
  | cons x r ih =>
    obtain ⟨k, b⟩ := x
    simp only [List.cons_append, alook]
    cases Nat.beq k l <;> simp [ih]
theorem alook_old (n0 : Nat) (L : List (Nat × Blk)) (l : Nat) : alook (oldBlks n0 L) l = if l < n0 then (alook L l).map (purgeB n0) else none := by
  induction L with
  | nil => simp [oldBlks, alook]
  | cons x r ih =>
    obtain ⟨k, b⟩ := x
    simp only [oldBlks, alook]
    cases hb : Nat.beq k l with
    | true =>
      obtain rfl := Nat.eq_of_beq_eq_true hb
      by_cases hk : k < n0
      · have : Nat.blt k n0 = true := Nat.ble_eq_true_of_le hk
        simp [this, alook, hk]
      · have : Nat.blt k n0 = false := by
          cases hq : Nat.blt k n0 with
          | false => rfl
          | true => exact absurd (Nat.le_of_ble_eq_true hq) hk
        simp [this, ih, hk]
    | false => cases Nat.blt k n0 <;> simp [alook, hb, ih]

/-- Where a carried block comes from. -/
def csrc (h : Hp) (n0 : Nat) (e : Env) : Nat → List Nat → Nat → Option Nat
  | _, [], _ => none
  | j, t :: ts, l =>
    match e t with
    | .sl l0 _ _ _ _ => if l = n0 + j then (if ¬ l0 < n0 ∧ (h.get l0).isSome = true ∧ carry.twice ts e l0 = false then some l0 else none) else csrc h n0 e (j + 1) ts l
    | _ => csrc h n0 e (j + 1) ts l
theorem csrc_ge {h : Hp} {n0 : Nat} {e : Env} : ∀ (ts : List Nat) (j l l0 : Nat), csrc h n0 e j ts l = some l0 → n0 + j ≤ l ∧ l < n0 + j + ts.length ∧ ¬ l0 < n0 ∧ (h.get l0).isSome = true ∧ ∃ t ∈ ts, ∃ off n c z, e t = .sl l0 off n c z := by
  intro ts
  induction ts with
  | nil => intro j l l0 h; simp [csrc] at h
  | cons t ts ih =>
    intro j l l0 hc
    have rec_ : csrc h n0 e (j + 1) ts l = some l0 → n0 + j ≤ l ∧ l < n0 + j + (t :: ts).length ∧ ¬ l0 < n0 ∧ (h.get l0).isSome = true ∧ ∃ u ∈ t :: ts, ∃ off n c z, e u = .sl l0 off n c z := fun hc => by
      obtain ⟨h1, h2, h3, h4, u, hu, h5⟩ := ih (j + 1) l l0 hc
      exact ⟨by omega, by simp only [List.length_cons]; omega, h3, h4, u, by simp [hu], h5⟩
    simp only [csrc] at hc
    cases he : e t <;> rw [he] at hc <;> try exact rec_ hc
    rename_i l1 off n c z
    simp only at hc
    split at hc
    · rename_i hl
      split at hc
      · rename_i hcond
        cases hc
        exact ⟨by omega, by simp only [List.length_cons]; omega, hcond.1, hcond.2.1, t, by simp, off, n, c, z, he⟩
      · cases hc
    · exact rec_ hc
theorem twice_true {ts : List Nat} {e : Env} {l0 : Nat} (h : carry.twice ts e l0 = false) : ∀ t ∈ ts, ∀ off n c z, e t ≠ .sl l0 off n c z := by
  intro t ht off n c z he
  unfold carry.twice at h
  have := List.any_eq_false.1 h t ht
  rw [he] at this
  simp at this
theorem csrc_inj {h : Hp} {n0 : Nat} {e : Env} : ∀ (ts : List Nat) (j l l' l0 : Nat), csrc h n0 e j ts l = some l0 → csrc h n0 e j ts l' = some l0 → l = l' := by
  intro ts
  induction ts with
  | nil => intro j l l' l0 h; simp [csrc] at h
  | cons t ts ih =>
    intro j l l' l0 h1 h2
    simp only [csrc] at h1 h2
    cases he : e t <;> rw [he] at h1 h2 <;> try exact ih _ _ _ _ h1 h2
    rename_i l1 off n c z
    simp only at h1 h2
    by_cases ha : l = n0 + j <;> by_cases hb : l' = n0 + j
    · omega
    · rw [if_pos ha] at h1
      rw [if_neg hb] at h2
      split at h1
      · rename_i hc
        cases h1
        obtain ⟨_, _, _, _, u, hu, o, n, c, z, he2⟩ := csrc_ge ts _ _ _ h2
        exact absurd he2 (twice_true hc.2.2 u hu _ _ _ _)
      · cases h1
    · rw [if_neg ha] at h1
      rw [if_pos hb] at h2
      split at h2
      · rename_i hc
        cases h2
        obtain ⟨_, _, _, _, u, hu, o, n, c, z, he2⟩ := csrc_ge ts _ _ _ h1
        exact absurd he2 (twice_true hc.2.2 u hu _ _ _ _)
      · cases h2
    · rw [if_neg ha] at h1
      rw [if_neg hb] at h2
      exact ih _ _ _ _ h1 h2
theorem carry_blk {h : Hp} {n0 : Nat} {e : Env} : ∀ (ts : List Nat) (j l : Nat), alook (carry h n0 e j ts).2 l = (csrc h n0 e j ts l).bind fun l0 => (h.get l0).map (purgeB n0) := by
  intro ts
  induction ts with
  | nil => intro j l; simp [carry, csrc, alook]
  | cons t ts ih =>
    intro j l
    simp only [carry, csrc]
    cases he : e t <;> simp only [ih]
    rename_i l1 off n c z
    by_cases hlt : l1 < n0
    · have hb : Nat.blt l1 n0 = true := Nat.ble_eq_true_of_le hlt
      simp only [hb, cond_true, ih]
      by_cases hl : l = n0 + j
      · rw [if_pos hl, if_neg (by simp [hlt])]
        cases hc : csrc h n0 e (j + 1) ts l with
        | none => rfl
        | some l0 => have := (csrc_ge ts _ _ _ hc).1; omega
      · rw [if_neg hl]
    · have hb : Nat.blt l1 n0 = false := by
        cases hq : Nat.blt l1 n0 with
        | false => rfl
        | true => exact absurd (Nat.le_of_ble_eq_true hq) hlt
      simp only [hb, cond_false]
      cases hg : h.get l1 with
      | none =>
        simp only [ih]
        by_cases hl : l = n0 + j
        · rw [if_pos hl, if_neg (by simp)]
          cases hc : csrc h n0 e (j + 1) ts l with
          | none => rfl
          | some l0 => have := (csrc_ge ts _ _ _ hc).1; omega
        · rw [if_neg hl]
      | some b =>
        simp only
        cases htw : carry.twice ts e l1 with
        | true =>
          simp only [cond_true, ih]
          by_cases hl : l = n0 + j
          · rw [if_pos hl, if_neg (by simp)]
            cases hc : csrc h n0 e (j + 1) ts l with
            | none => rfl
            | some l0 => have := (csrc_ge ts _ _ _ hc).1; omega
          · rw [if_neg hl]
        | false =>
          simp only [cond_false, alook_append, ih]
          by_cases hl : l = n0 + j
          · rw [if_pos hl, if_pos (by simp [hlt])]
            cases hc : csrc h n0 e (j + 1) ts l with
            | some l0 => have := (csrc_ge ts _ _ _ hc).1; omega
            | none => subst hl; simp [alook, hg]
          · rw [if_neg hl]
            cases hc : csrc h n0 e (j + 1) ts l with
            | none => simp [alook, beq_false_of_ne (Ne.symm hl)]
            | some l0 =>
              obtain ⟨_, _, _, h4, _⟩ := csrc_ge ts _ _ _ hc
              obtain ⟨b', hb'⟩ := Option.isSome_iff_exists.1 h4
              simp [hb']

theorem purge_rel {K : Kn} {σ : Sg} {n0 : Nat} {v : AV} {V : Value} (h : Rel K σ v V) : ∀ {σ' : Sg}, (∀ l, l < n0 → σ' l = σ l) → Rel K σ' (purge n0 v) V := by
  have lists : ∀ {cs : List AV} (i : Nat) a, (purgeL n0 cs)[i]? = some a → ∃ b, cs[i]? = some b ∧ a = purge n0 b := by
    intro cs
    induction cs with
    | nil => intro i a h; simp [purgeL] at h
    | cons c cs ih =>
      intro i a h
      cases i with
      | zero => simp [purgeL] at h; exact ⟨c, rfl, h.symm⟩
      | succ i => exact ih i a (by simpa [purgeL] using h)
  have lens : ∀ (cs : List AV), (purgeL n0 cs).length = cs.length := by
    intro cs
    induction cs with
    | nil => rfl
    | cons c cs ih => simp [purgeL, ih]
  induction h with
  | top => intros; exact .top
  | bool => intros; exact .bool
  | int => intros; exact .int
  | str => intros; exact .str
  | agg hl _ ih => intro σ' hs; exact .agg (by rw [lens]; exact hl) fun i a v h1 h2 => by obtain ⟨b, h3, rfl⟩ := lists i a h1; exact ih i b v h3 h2 hs
  | tup hl _ ih => intro σ' hs; exact .tup (by rw [lens]; exact hl) fun i a v h1 h2 => by obtain ⟨b, h3, rfl⟩ := lists i a h1; exact ih i b v h3 h2 hs
  | rs0 => intros; exact .rs0
  | rs f hne hc hsz hk hr _ => intro σ' _; exact .rs f hne hc hsz hk hr
  | rp f hk hr _ => intro σ' _; exact .rp f hk hr
  | sl hσ hz hc hcap ht =>
    rename_i l off n c z x rc
    intro σ' hs
    simp only [purge]
    cases hb : Nat.blt l n0 with
    | false => exact .top
    | true => exact .sl (by rw [hs l (Nat.le_of_ble_eq_true hb)]; exact hσ) hz hc hcap ht
  | ptr hσ =>
    rename_i l i off x
    intro σ' hs
    simp only [purge]
    cases hb : Nat.blt l n0 with
    | false => exact .top
    | true => exact .ptr (by rw [hs l (Nat.le_of_ble_eq_true hb)]; exact hσ)
  | nils => intros; exact .nils
  | nilp => intros; exact .nilp
  | nilf => intros; exact .nilf
  | fn ha hc _ _ ih ih' =>
    intro σ' hs
    exact .fn (by rw [lens]; exact ha) (by rw [lens]; exact hc) (fun i x v h1 h2 => by obtain ⟨b, h3, rfl⟩ := lists i x h1; exact ih i b v h3 h2 hs) fun i x v h1 h2 => by obtain ⟨b, h3, rfl⟩ := lists i x h1; exact ih' i b v h3 h2 hs
theorem purgeLL_get (n0 : Nat) : ∀ (es : List (List AV)) (i : Nat), (purgeLL n0 es)[i]? = (es[i]?).map (purgeL n0) := by
  intro es
  induction es with
  | nil => intro i; simp [purgeLL]
  | cons e es ih => intro i; cases i <;> simp [purgeLL, ih]
theorem purgeL_get (n0 : Nat) : ∀ (es : List AV) (i : Nat), (purgeL n0 es)[i]? = (es[i]?).map (purge n0) := by
  intro es
  induction es with
  | nil => intro i; simp [purgeL]
  | cons e es ih => intro i; cases i <;> simp [purgeL, ih]
/-- A purged block's elements. -/
theorem purgeB_get {n0 : Nat} {B : Blk} {K : Kn} {σ σ' : Sg} (hs : ∀ l, l < n0 → σ' l = σ l) : (purgeB n0 B).sz = B.sz ∧ (purgeB n0 B).es.length = B.es.length ∧
    ∀ (i : Nat) e, (purgeB n0 B).es[i]? = some e → ∃ e0, B.es[i]? = some e0 ∧ e.length = e0.length ∧ ∀ (j : Nat) a, e[j]? = some a → ∃ a0, e0[j]? = some a0 ∧ ∀ V, Rel K σ a0 V → Rel K σ' a V := by
  unfold purgeB
  cases hf : refFreeLL B.es with
  | true =>
    refine ⟨rfl, rfl, fun i e h => ⟨e, h, rfl, fun j a ha => ⟨a, ha, fun V hV => hV.free (refFreeL_mem (refFreeLL_mem hf i e h) j a ha) _⟩⟩⟩
  | false =>
    have hlen : (purgeLL n0 B.es).length = B.es.length := by
      have : ∀ es : List (List AV), (purgeLL n0 es).length = es.length := by
        intro es
        induction es with
        | nil => rfl
        | cons e es ih => simp [purgeLL, ih]
      exact this _
    have hlenL : ∀ es : List AV, (purgeL n0 es).length = es.length := by
      intro es
      induction es with
      | nil => rfl
      | cons e es ih => simp [purgeL, ih]
    refine ⟨rfl, hlen, fun i e h => ?_⟩
    simp only [cond_false] at h
    rw [purgeLL_get] at h
    cases h0 : B.es[i]? with
    | none => simp [h0] at h
    | some e0 =>
      simp only [h0, Option.map_some, Option.some.injEq] at h
      subst h
      refine ⟨e0, rfl, hlenL e0, fun j a ha => ?_⟩
      rw [purgeL_get] at ha
      cases ha0 : e0[j]? with
      | none => simp [ha0] at ha
      | some a0 =>
        simp only [ha0, Option.map_some, Option.some.injEq] at ha
        subst ha
        exact ⟨a0, rfl, fun V hV => purge_rel hV hs⟩
end Go.Proofs.YtnibcojenlijgaaGreatDoor.Ev
