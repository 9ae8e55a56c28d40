/- Regions that draw their order: operations that may change places. No condition. -/
import Derived.Test.YtnibcojenlijgaaGreatDoorEv16
set_option linter.unusedVariables false
set_option linter.unusedSimpArgs false
namespace Go.Proofs.YtnibcojenlijgaaGreatDoor.Ev
open Go Go.RowKit

/-! ### Lists of blocks -/
theorem ains_comm {a b : Nat} (x y : Blk) (hne : a ≠ b) : ∀ L, ains a x (ains b y L) = ains b y (ains a x L) := by
  have blt_t : ∀ {m n : Nat}, m < n → Nat.blt m n = true := fun h => Nat.ble_eq_true_of_le h
  have blt_f : ∀ {m n : Nat}, ¬ m < n → Nat.blt m n = false := fun {m n} h => by
    cases hq : Nat.blt m n with
    | false => rfl
    | true => exact absurd (Nat.le_of_ble_eq_true hq) h
  intro L
  induction L with
  | nil =>
    rcases Nat.lt_or_gt_of_ne hne with h | h
    · simp [ains, blt_f (show ¬ b < a by omega), blt_t h]
    · simp [ains, blt_t h, blt_f (show ¬ a < b by omega)]
  | cons p r ih =>
    obtain ⟨k, c⟩ := p
    by_cases h1 : k < a <;> by_cases h2 : k < b
    · rcases Nat.lt_or_gt_of_ne hne with h | h
      · simp [ains, blt_t h1, blt_t h2, blt_f (show ¬ b < a by omega), blt_t h]
      · simp [ains, blt_t h1, blt_t h2, blt_t h, blt_f (show ¬ a < b by omega)]
    · simp [ains, blt_t h1, blt_f h2, blt_f (show ¬ a < b by omega)]
    · simp [ains, blt_f h1, blt_t h2, blt_f (show ¬ b < a by omega)]
    · simp [ains, blt_f h1, blt_f h2, ih]
theorem aset_ains {a b : Nat} (x y : Blk) (hne : a ≠ b) : ∀ L, aset (ains a x L) b y = ains a x (aset L b y) := by
  intro L
  have hab := beq_false_of_ne hne
  induction L with
  | nil => simp [ains, aset, hab]
  | cons p r ih =>
    obtain ⟨k, c⟩ := p
    cases h1 : Nat.blt k a with
    | true =>
      cases h2 : Nat.beq k b with
      | true => simp [ains, aset, h1, h2, hab]
      | false => simp [ains, aset, h1, h2, hab]
    | false =>
      cases h2 : Nat.beq k b with
      | true => simp [ains, aset, h1, h2]
      | false => simp [ains, aset, h1, h2, ih]
theorem aset_comm {a b : Nat} (x y : Blk) (hne : a ≠ b) : ∀ L, aset (aset L a x) b y = aset (aset L b y) a x := by
  intro L
  induction L with
  | nil => simp [aset]
  | cons p r ih =>
    obtain ⟨k, c⟩ := p
    cases h1 : Nat.beq k a with
    | true =>
      obtain rfl := Nat.eq_of_beq_eq_true h1
      simp [aset, h1, beq_false_of_ne hne]
    | false =>
      cases h2 : Nat.beq k b with
      | true => simp [aset, h1, h2]
      | false => simp [aset, h1, h2, ih]

/-! ### What an operation does to the heap -/
inductive EffK where
  | id
  | new (l : Nat) (b : Blk)
  | set (l : Nat) (b : Blk)
def EffK.ap : EffK → Hp → Hp
  | .id, h => h
  | .new l b, h => h.new l b
  | .set l b, h => h.set l b
def EffK.touch : EffK → Nat → Prop
  | .id, _ => False
  | .new l _, k => k = l
  | .set l _, k => k = l
theorem EffK.comm {x y : EffK} (hd : ∀ k, x.touch k → y.touch k → False) (h : Hp) : x.ap (y.ap h) = y.ap (x.ap h) := by
  cases x with
  | id => rfl
  | new l b => cases y with
    | id => rfl
    | new m c => have : l ≠ m := fun e => hd l rfl (by simp [EffK.touch, e]); simp [EffK.ap, Hp.new, ains_comm b c this]
    | set m c => have : l ≠ m := fun e => hd l rfl (by simp [EffK.touch, e]); simp [EffK.ap, Hp.new, Hp.set, aset_ains b c this]
  | set l b => cases y with
    | id => rfl
    | new m c => have : l ≠ m := fun e => hd l rfl (by simp [EffK.touch, e]); simp [EffK.ap, Hp.new, Hp.set, aset_ains c b (Ne.symm this)]
    | set m c => have : l ≠ m := fun e => hd l rfl (by simp [EffK.touch, e]); simp [EffK.ap, Hp.set, aset_comm c b (Ne.symm this)]
theorem EffK.get {x : EffK} {k : Nat} (hk : ¬ x.touch k) (h : Hp) : (x.ap h).get k = h.get k := by
  cases x with
  | id => rfl
  | new l b => exact Hp.get_new_other b hk
  | set l b => exact Hp.get_set_other b hk

/-- The operation's value and effect do not hang on more than 'deps'. -/
def EvE (orc : Orc) (fr : Nat) (r : ROp) (s : St) (v : AV) (deps : Nat → Prop) (eff : EffK) : Prop :=
  ∀ s2 : St, (∀ t ∈ looksR r, s2.env t = s.env t) → (∀ l, deps l → s2.h.get l = s.h.get l) → ev1 orc fr r s2 = some ⟨updO s2.env r.dst v, eff.ap s2.h⟩
/-- It reads, of blocks that are there. -/
def EvM (orc : Orc) (fr : Nat) (r : ROp) (s : St) (v : AV) : Prop :=
  ∀ s2 : St, (∀ t ∈ looksR r, s2.env t = s.env t) → (∀ l B, s.h.get l = some B → s2.h.get l = some B) → ev1 orc fr r s2 = some ⟨updO s2.env r.dst v, s2.h⟩

theorem evx {e e' : Env} {x : Opd} (h : ∀ t ∈ tmOf x, e' t = e t) : x.ev e' = x.ev e := by
  cases x with
  | tmp t => exact h t (by simp [tmOf])
  | con v => rfl
  | func f => rfl
theorem opds_env {e e' : Env} {xs : List Opd} (h : ∀ t ∈ xs.flatMap tmOf, e' t = e t) : opds e' xs = opds e xs := by
  induction xs with
  | nil => rfl
  | cons x xs ih =>
    simp only [List.flatMap_cons, List.mem_append] at h
    simp only [opds]
    rw [evx fun t ht => h t (.inl ht), ih fun t ht => h t (.inr ht)]
theorem optInt_env {e e' : Env} {o : Option Opd} {d : Int} (h : ∀ t ∈ tmO o, e' t = e t) : optInt e' o d = optInt e o d := by
  cases o with
  | none => rfl
  | some x => simp only [optInt]; rw [evx h]
theorem parts3_env {e e' : Env} {ps : List (Nat × Nat × Opd)} (h : ∀ t ∈ ps.flatMap (fun p => tmOf p.2.2), e' t = e t) : parts3 e' ps = parts3 e ps := by
  induction ps with
  | nil => rfl
  | cons p ps ih =>
    obtain ⟨a, b, x⟩ := p
    simp only [List.flatMap_cons, List.mem_append] at h
    simp only [parts3]
    rw [evx fun t ht => h t (.inl ht), ih fun t ht => h t (.inr ht)]
theorem parts2_env {e e' : Env} {ps : List (Nat × Opd)} (h : ∀ t ∈ ps.flatMap (fun p => tmOf p.2), e' t = e t) : parts2 e' ps = parts2 e ps := by
  induction ps with
  | nil => rfl
  | cons p ps ih =>
    obtain ⟨a, x⟩ := p
    simp only [List.flatMap_cons, List.mem_append] at h
    simp only [parts2]
    rw [evx fun t ht => h t (.inl ht), ih fun t ht => h t (.inr ht)]
theorem step_env {e e' : Env} {r : RO} (h : ∀ t ∈ looksRO r, e' t = e t) (hp : Hp) (fr : Nat) : r.step e' hp fr = r.step e hp fr := by
  cases r <;> simp only [looksRO, List.mem_append] at h
  case mov x => simp only [RO.step]; rw [evx h]
  case nck x => simp only [RO.step]; rw [evx h]
  case pick a b c => simp only [RO.step]; rw [evx fun t ht => h t (.inl (.inl ht)), evx fun t ht => h t (.inl (.inr ht)), evx fun t ht => h t (.inr ht)]
  case alloc => rfl
  case box => simp only [RO.step]; rw [evx h]
  case build => simp only [RO.step]; rw [parts3_env h]
  case bslice => simp only [RO.step]; rw [parts2_env h]
  case blit => simp only [RO.step]; rw [parts2_env h]
  case load => simp only [RO.step]; rw [evx h]
  case store => simp only [RO.step]; rw [evx fun t ht => h t (.inl ht), evx fun t ht => h t (.inr ht)]
  case bin => simp only [RO.step]; rw [evx fun t ht => h t (.inl ht), evx fun t ht => h t (.inr ht)]
  case eqs => simp only [RO.step]; rw [evx fun t ht => h t (.inl ht), evx fun t ht => h t (.inr ht)]
  case eqb => simp only [RO.step]; rw [evx fun t ht => h t (.inl ht), evx fun t ht => h t (.inr ht)]
  case un => simp only [RO.step]; rw [evx h]
  case conv => simp only [RO.step]; rw [evx h]
  case mkfn => simp only [RO.step]; rw [opds_env fun t ht => h t (.inl ht), opds_env fun t ht => h t (.inr ht)]
  case fieldA => simp only [RO.step]; rw [evx h]
  case field => simp only [RO.step]; rw [evx h]
  case idxA => simp only [RO.step]; rw [evx fun t ht => h t (.inl ht), evx fun t ht => h t (.inr ht)]
  case idxAarr => simp only [RO.step]; rw [evx fun t ht => h t (.inl ht), evx fun t ht => h t (.inr ht)]
  case idxS => simp only [RO.step]; rw [evx fun t ht => h t (.inl ht), evx fun t ht => h t (.inr ht)]
  case idxV => simp only [RO.step]; rw [evx fun t ht => h t (.inl ht), evx fun t ht => h t (.inr ht)]
  case slc => simp only [RO.step]; rw [evx fun t ht => h t (.inl (.inl ht)), optInt_env fun t ht => h t (.inl (.inr ht))]; simp only [optInt_env fun t ht => h t (.inr ht)]
  case slcS => simp only [RO.step]; rw [evx fun t ht => h t (.inl (.inl ht)), optInt_env fun t ht => h t (.inl (.inr ht))]; simp only [optInt_env fun t ht => h t (.inr ht)]
  case ext => simp only [RO.step]; rw [evx h]
  case lenL => simp only [RO.step]; rw [evx h]
  case lenS => simp only [RO.step]; rw [evx h]
  case app => simp only [RO.step]; rw [evx fun t ht => h t (.inl ht), evx fun t ht => h t (.inr ht)]
  case mks => simp only [RO.step]; rw [evx fun t ht => h t (.inl ht), evx fun t ht => h t (.inr ht)]

/-- Reading is monotone. -/
theorem loadAt_mono {h h' : Hp} (hm : ∀ l B, h.get l = some B → h'.get l = some B) {g : Bool} {n : Nat} {p v : AV} (hl : loadAt h g n p = some v) : loadAt h' g n p = some v := by
  cases p <;> simp only [loadAt] at hl ⊢ <;> try exact hl
  rename_i l i off
  cases hg : h.get l with
  | none => simp [hg] at hl
  | some B => rw [hm l B hg]; simpa [hg] using hl
theorem mapO_mono {α β : Type} {f g : α → Option β} (hfg : ∀ x y, f x = some y → g x = some y) : ∀ (l : List α) (r : List β), mapO f l = some r → mapO g l = some r := by
  intro l
  induction l with
  | nil => intro r h; exact h
  | cons x l ih =>
    intro r h
    simp only [mapO] at h ⊢
    cases h1 : f x with
    | none => simp [h1] at h
    | some y => cases h2 : mapO f l with
      | none => simp [h1, h2] at h
      | some ys => rw [hfg x y h1, ih ys h2]; simpa [h1, h2] using h
theorem frz_mono {h h' : Hp} (hm : ∀ l B, h.get l = some B → h'.get l = some B) : ∀ (n : Nat) (v r : AV), frz h n v = some r → frz h' n v = some r := by
  intro n
  induction n with
  | zero => intro v r h; simp [frz] at h
  | succ n ih =>
    intro v r hf
    have ml := mapO_mono (f := frz h n) (g := frz h' n) ih
    simp only [frz] at hf ⊢
    cases hfree : refFree v with
    | true => simpa [hfree] using hf
    | false =>
      simp only [hfree, cond_false] at hf ⊢
      cases v <;> simp only [reduceCtorEq] at hf ⊢
      case agg cs =>
        cases h1 : mapO (frz h n) cs with
        | none => simp [h1] at hf
        | some x => rw [ml cs x h1]; simpa [h1] using hf
      case tup cs =>
        cases h1 : mapO (frz h n) cs with
        | none => simp [h1] at hf
        | some x => rw [ml cs x h1]; simpa [h1] using hf
      case fn f a c =>
        cases h1 : mapO (frz h n) a with
        | none => simp [h1] at hf
        | some x => cases h2 : mapO (frz h n) c with
          | none => simp [h1, h2] at hf
          | some y => rw [ml a x h1, ml c y h2]; simpa [h1, h2] using hf
      case sl l off k c z =>
        cases hg : h.get l with
        | none => simp [hg] at hf
        | some B =>
          rw [hm l B hg]
          simp only [hg] at hf
          simp only
          cases hb : Nat.ble (off + k) B.es.length with
          | false => simp [hb] at hf
          | true =>
            simp only [hb, cond_true] at hf ⊢
            cases hr : refFreeLL ((B.es.drop off).take k) with
            | true => simpa [hr] using hf
            | false =>
              simp only [hr, cond_false] at hf ⊢
              cases h1 : mapO (mapO (frz h n)) ((B.es.drop off).take k) with
              | none => simp [h1] at hf
              | some x => rw [mapO_mono (f := mapO (frz h n)) (g := mapO (frz h' n)) ml _ x h1]; simpa [h1] using hf
      case ptr l i off =>
        cases hg : h.get l with
        | none => simp [hg] at hf
        | some B =>
          rw [hm l B hg]
          simp only [hg] at hf
          simp only
          cases hi : B.es[i]? with
          | none => simp [hi] at hf
          | some cs =>
            simp only [hi] at hf ⊢
            cases h1 : mapO (frz h n) cs with
            | none => simp [h1] at hf
            | some x => rw [ml cs x h1]; simpa [h1] using hf
theorem callA_mono {orc : Orc} {h h' : Hp} (hm : ∀ l B, h.get l = some B → h'.get l = some B) {f : AV} {xs : List AV} {v : AV} (hc : callA orc h f xs = some v) : callA orc h' f xs = some v := by
  cases f <;> simp only [callA, reduceCtorEq] at hc ⊢
  rename_i f a c
  cases hfree : refFreeL (a ++ xs ++ c) with
  | true => rw [hfree] at hc; exact hc
  | false =>
    simp only [hfree, cond_false, frzL] at hc ⊢
    cases h1 : mapO (frz h 6) (a ++ xs ++ c) with
    | none => rw [h1] at hc; cases hc
    | some ys => rw [mapO_mono (f := frz h 6) (g := frz h' 6) (frz_mono hm 6) _ ys h1]; rw [h1] at hc; exact hc
end Go.Proofs.YtnibcojenlijgaaGreatDoor.Ev
