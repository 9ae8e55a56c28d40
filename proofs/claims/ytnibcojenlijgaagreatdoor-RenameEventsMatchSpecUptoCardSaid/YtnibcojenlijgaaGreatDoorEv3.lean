/- The relation between abstract and concrete values and memories. No condition. -/
import Derived.Test.YtnibcojenlijgaaGreatDoorEv2
import Derived.Orders
import Derived.Laws.Cells
import Derived.Laws.CopyRow
import Derived.Deep.AppendSrc
import Derived.WalkKit
namespace Go.Proofs.YtnibcojenlijgaaGreatDoor.Ev
open Go

abbrev Kn := Nat → Nat → Option Value
structure Sl where
  b : Nat
  base : Nat
  sz : Nat
  tot : Nat
abbrev Sg := Nat → Option Sl

inductive Rel (K : Kn) : Sg → AV → Value → Prop
  | top {σ v} : Rel K σ .top v
  | bool {σ b} : Rel K σ (.bool b) (.bool b)
  | int {σ k n} : Rel K σ (.int k n) (.int k n)
  | str {σ s} : Rel K σ (.str s) (.string s)
  | agg {σ cs} {vs : Array Value} (hl : vs.size = cs.length) (h : ∀ (i : Nat) a v, cs[i]? = some a → vs[i]? = some v → Rel K σ a v) : Rel K σ (.agg cs) (.agg vs)
  | tup {σ cs} {vs : Array Value} (hl : vs.size = cs.length) (h : ∀ (i : Nat) a v, cs[i]? = some a → vs[i]? = some v → Rel K σ a v) : Rel K σ (.tup cs) (.tuple vs)
  | rs0 {σ a cap} : Rel K σ (.rs []) (.slice a 0 cap)
  | rs {σ es b off sz cap} (f : Nat → Nat → Value) (hne : es ≠ []) (hc : es.length ≤ cap) (hsz : ∀ e ∈ es, e.length = sz)
      (hK : ∀ i j, i < es.length → j < sz → K b (off + i * sz + j) = some (f i j))
      (hr : ∀ (i j : Nat) e a, es[i]? = some e → e[j]? = some a → Rel K (fun _ => none) a (f i j)) : Rel K σ (.rs es) (.slice (some ⟨b, off, none⟩) es.length cap)
  | rp {σ cs off b o} (f : Nat → Value) (hK : ∀ j, j < cs.length → K b (o + j) = some (f j))
      (hr : ∀ (j : Nat) a, cs[j]? = some a → Rel K (fun _ => none) a (f j)) : Rel K σ (.rp cs off) (.pointer (some ⟨b, o + off, none⟩))
  | sl {σ l off n c z x rc} (hσ : σ l = some x) (hz : x.sz = z) (hc : n ≤ rc) (hcap : ∀ k, c = some k → k = rc) (ht : x.base + (off + rc) * z ≤ x.tot) :
      Rel K σ (.sl l off n c z) (.slice (some ⟨x.b, x.base + off * z, none⟩) n rc)
  | ptr {σ l i off x} (hσ : σ l = some x) : Rel K σ (.ptr l i off) (.pointer (some ⟨x.b, x.base + i * x.sz + off, none⟩))
  | nils {σ} : Rel K σ .nils (.slice none 0 0)
  | nilp {σ} : Rel K σ .nilp (.pointer none)
  | nilf {σ} : Rel K σ .nilf .nilFunc
  | fn {σ f a c} {a' c' : Array Value} (ha : a'.size = a.length) (hc : c'.size = c.length) (h : ∀ (i : Nat) x v, a[i]? = some x → a'[i]? = some v → Rel K σ x v)
      (h' : ∀ (i : Nat) x v, c[i]? = some x → c'[i]? = some v → Rel K σ x v) : Rel K σ (.fn f a c) (.func (.func f) a' c')

def KLe (K K' : Kn) : Prop := ∀ b o v, K b o = some v → K' b o = some v
def SLe (σ σ' : Sg) : Prop := ∀ l x, σ l = some x → σ' l = some x
theorem KLe.refl (K : Kn) : KLe K K := fun _ _ _ h => h
theorem SLe.refl (σ : Sg) : SLe σ σ := fun _ _ h => h
theorem KLe.trans {a b c : Kn} (h : KLe a b) (h' : KLe b c) : KLe a c := fun x y z q => h' x y z (h x y z q)
theorem SLe.trans {a b c : Sg} (h : SLe a b) (h' : SLe b c) : SLe a c := fun x y q => h' x y (h x y q)

theorem Rel.mono {K K' : Kn} (hK : KLe K K') {σ : Sg} {a : AV} {v : Value} (h : Rel K σ a v) : ∀ {σ' : Sg}, SLe σ σ' → Rel K' σ' a v := by
  induction h with
  | top => intros; exact .top
  | bool => intros; exact .bool
  | int => intros; exact .int
  | str => intros; exact .str
  | agg hl _ ih => intro σ' hs; exact .agg hl fun i a v h1 h2 => ih i a v h1 h2 hs
  | tup hl _ ih => intro σ' hs; exact .tup hl fun i a v h1 h2 => ih i a v h1 h2 hs
  | rs0 => intros; exact .rs0
  | rs f hne hc hsz hk _ ih => intro σ' _; exact .rs f hne hc hsz (fun i j h1 h2 => hK _ _ _ (hk i j h1 h2)) fun i j e a h1 h2 => ih i j e a h1 h2 (SLe.refl _)
  | rp f hk _ ih => intro σ' _; exact .rp f (fun j h1 => hK _ _ _ (hk j h1)) fun j a h1 => ih j a h1 (SLe.refl _)
  | sl hσ hz hc hcap ht => intro σ' hs; exact .sl (hs _ _ hσ) hz hc hcap ht
  | ptr hσ => intro σ' hs; exact .ptr (hs _ _ hσ)
  | nils => intros; exact .nils
  | nilp => intros; exact .nilp
  | nilf => intros; exact .nilf
  | fn ha hc _ _ ih ih' => intro σ' hs; exact .fn ha hc (fun i x v h1 h2 => ih i x v h1 h2 hs) fun i x v h1 h2 => ih' i x v h1 h2 hs

theorem refFreeL_mem {cs : List AV} (h : refFreeL cs = true) : ∀ (i : Nat) a, cs[i]? = some a → refFree a = true := by
  induction cs with
  | nil => intro i a h; simp at h
  | cons c cs ih =>
    simp only [refFreeL, Bool.and_eq_true] at h
    intro i a hi
    cases i with
    | zero => simp at hi; exact hi ▸ h.1
    | succ i => exact ih h.2 i a (by simpa using hi)
theorem refFreeLL_mem {es : List (List AV)} (h : refFreeLL es = true) : ∀ (i : Nat) e, es[i]? = some e → refFreeL e = true := by
  induction es with
  | nil => intro i a h; simp at h
  | cons c cs ih =>
    simp only [refFreeLL, Bool.and_eq_true] at h
    intro i a hi
    cases i with
    | zero => simp at hi; exact hi ▸ h.1
    | succ i => exact ih h.2 i a (by simpa using hi)
theorem flatL_mem {cs : List AV} (h : flatL cs = true) : ∀ (i : Nat) a, cs[i]? = some a → flat a = true := by
  induction cs with
  | nil => intro i a h; simp at h
  | cons c cs ih =>
    simp only [flatL, Bool.and_eq_true] at h
    intro i a hi
    cases i with
    | zero => simp at hi; exact hi ▸ h.1
    | succ i => exact ih h.2 i a (by simpa using hi)
theorem oneL_mem {cs : List AV} (h : oneL cs = true) : ∀ (i : Nat) a, cs[i]? = some a → one a = true := by
  induction cs with
  | nil => intro i a h; simp at h
  | cons c cs ih =>
    simp only [oneL, Bool.and_eq_true] at h
    intro i a hi
    cases i with
    | zero => simp at hi; exact hi ▸ h.1
    | succ i => exact ih h.2 i a (by simpa using hi)

theorem Rel.free {K : Kn} {σ : Sg} {a : AV} {v : Value} (h : Rel K σ a v) : refFree a = true → ∀ σ', Rel K σ' a v := by
  induction h with
  | top => intros; exact .top
  | bool => intros; exact .bool
  | int => intros; exact .int
  | str => intros; exact .str
  | agg hl _ ih => intro hf σ'; exact .agg hl fun i a v h1 h2 => ih i a v h1 h2 (refFreeL_mem (by simpa [refFree] using hf) i a h1) σ'
  | tup hl _ ih => intro hf σ'; exact .tup hl fun i a v h1 h2 => ih i a v h1 h2 (refFreeL_mem (by simpa [refFree] using hf) i a h1) σ'
  | rs0 => intros; exact .rs0
  | rs f hne hc hsz hk hr _ => intro _ σ'; exact .rs f hne hc hsz hk hr
  | rp f hk hr _ => intro _ σ'; exact .rp f hk hr
  | sl => intro hf; simp [refFree] at hf
  | ptr => intro hf; simp [refFree] at hf
  | nils => intros; exact .nils
  | nilp => intros; exact .nilp
  | nilf => intros; exact .nilf
  | fn ha hc _ _ ih ih' =>
    intro hf σ'
    simp only [refFree, Bool.and_eq_true] at hf
    exact .fn ha hc (fun i x v h1 h2 => ih i x v h1 h2 (refFreeL_mem hf.1 i x h1) σ') fun i x v h1 h2 => ih' i x v h1 h2 (refFreeL_mem hf.2 i x h1) σ'

theorem Rel.flat {K : Kn} {σ : Sg} {a : AV} {v : Value} (h : Rel K σ a v) : Ev.flat a = true → ∀ K' σ', Rel K' σ' a v := by
  induction h with
  | top => intro hf; simp [Ev.flat] at hf
  | bool => intros; exact .bool
  | int => intros; exact .int
  | str => intros; exact .str
  | agg hl _ ih => intro hf K' σ'; exact .agg hl fun i a v h1 h2 => ih i a v h1 h2 (flatL_mem (by simpa [Ev.flat] using hf) i a h1) K' σ'
  | tup hl _ ih => intro hf K' σ'; exact .tup hl fun i a v h1 h2 => ih i a v h1 h2 (flatL_mem (by simpa [Ev.flat] using hf) i a h1) K' σ'
  | rs0 => intro hf; simp [Ev.flat] at hf
  | rs => intro hf; simp [Ev.flat] at hf
  | rp => intro hf; simp [Ev.flat] at hf
  | sl => intro hf; simp [Ev.flat] at hf
  | ptr => intro hf; simp [Ev.flat] at hf
  | nils => intros; exact .nils
  | nilp => intros; exact .nilp
  | nilf => intros; exact .nilf
  | fn => intro hf; simp [Ev.flat] at hf

theorem Rel.one {K : Kn} {σ : Sg} {a : AV} {v : Value} (h : Rel K σ a v) (ho : Ev.one a = true) : v.oneCell' = true := by
  cases h <;> first | rfl | simp [Ev.one] at ho

/-- Cells: lists alike. -/
def RelL (K : Kn) (σ : Sg) (cs : List AV) (vs : List Value) : Prop := vs.length = cs.length ∧ ∀ (i : Nat) a v, cs[i]? = some a → vs[i]? = some v → Rel K σ a v
theorem RelL.nil {K σ} : RelL K σ [] [] := ⟨rfl, fun i a v h => by simp at h⟩
theorem RelL.cons {K σ a v cs vs} (h : Rel K σ a v) (h' : RelL K σ cs vs) : RelL K σ (a :: cs) (v :: vs) :=
  ⟨by simp [h'.1], fun i a v h1 h2 => by
    cases i with
    | zero => simp at h1 h2; exact h1 ▸ h2 ▸ h
    | succ i => exact h'.2 i a v (by simpa using h1) (by simpa using h2)⟩
theorem RelL.mono {K K' : Kn} {σ σ' : Sg} {cs vs} (h : RelL K σ cs vs) (hK : KLe K K') (hs : SLe σ σ') : RelL K' σ' cs vs := ⟨h.1, fun i a v h1 h2 => (h.2 i a v h1 h2).mono hK hs⟩
theorem RelL.append {K σ cs vs ds us} (h : RelL K σ cs vs) (h' : RelL K σ ds us) : RelL K σ (cs ++ ds) (vs ++ us) :=
  ⟨by simp [h.1, h'.1], fun i a v h1 h2 => by
    by_cases hi : i < cs.length
    · rw [List.getElem?_append_left hi] at h1
      rw [List.getElem?_append_left (by rw [h.1]; exact hi)] at h2
      exact h.2 i a v h1 h2
    · rw [List.getElem?_append_right (by omega)] at h1
      rw [List.getElem?_append_right (by rw [h.1]; omega), h.1] at h2
      exact h'.2 _ a v h1 h2⟩
theorem RelL.drop {K σ cs vs} (h : RelL K σ cs vs) (n : Nat) : RelL K σ (cs.drop n) (vs.drop n) :=
  ⟨by simp [h.1], fun i a v h1 h2 => h.2 (n + i) a v (by simpa using h1) (by simpa using h2)⟩
theorem RelL.take {K σ cs vs} (h : RelL K σ cs vs) (n : Nat) : RelL K σ (cs.take n) (vs.take n) :=
  ⟨by simp [h.1], fun i a v h1 h2 => by
    rw [List.getElem?_take] at h1 h2
    split at h1
    · rename_i hi; rw [if_pos hi] at h2; exact h.2 i a v h1 h2
    · cases h1⟩
theorem RelL.set {K σ cs vs} (h : RelL K σ cs vs) (n : Nat) {a v} (hr : Rel K σ a v) : RelL K σ (cs.set n a) (vs.set n v) :=
  ⟨by simp [h.1], fun i a' v' h1 h2 => by
    rw [List.getElem?_set] at h1 h2
    by_cases hi : n = i
    · subst hi
      rw [if_pos rfl] at h1 h2
      split at h1
      · split at h2
        · cases h1; cases h2; exact hr
        · cases h2
      · cases h1
    · rw [if_neg hi] at h1 h2; exact h.2 i a' v' h1 h2⟩
theorem Rel.aggL {K σ cs} {vs : Array Value} : Rel K σ (.agg cs) (.agg vs) ↔ RelL K σ cs vs.toList :=
  ⟨fun h => by cases h with | agg hl h => exact ⟨by simpa using hl, fun i a v h1 h2 => h i a v h1 (by simpa using h2)⟩,
   fun h => .agg (by simpa using h.1) fun i a v h1 h2 => h.2 i a v h1 (by simpa using h2)⟩
theorem Rel.tupL {K σ cs} {vs : Array Value} : Rel K σ (.tup cs) (.tuple vs) ↔ RelL K σ cs vs.toList :=
  ⟨fun h => by cases h with | tup hl h => exact ⟨by simpa using hl, fun i a v h1 h2 => h i a v h1 (by simpa using h2)⟩,
   fun h => .tup (by simpa using h.1) fun i a v h1 h2 => h.2 i a v h1 (by simpa using h2)⟩
theorem RelL.free {K σ cs vs} (h : RelL K σ cs vs) (hf : refFreeL cs = true) (σ' : Sg) : RelL K σ' cs vs := ⟨h.1, fun i a v h1 h2 => (h.2 i a v h1 h2).free (refFreeL_mem hf i a h1) σ'⟩

/-- Cells of a value that can be stored. -/
theorem Rel.cellsO {K σ a v cs} (h : Rel K σ a v) (hc : Ev.cellsO a = some cs) : RelL K σ cs v.cells.toList ∧ oneL cs = true := by
  cases h <;> simp only [Ev.cellsO] at hc
  case agg hl h =>
    rename_i ds vs
    cases ho : oneL ds with
    | true =>
      simp only [ho, cond_true, Option.some.injEq] at hc
      subst hc
      exact ⟨Rel.aggL.1 (.agg hl h), ho⟩
    | false => simp [ho] at hc
  all_goals first
    | cases hc; done
    | (cases hc
       refine ⟨?_, rfl⟩
       refine RelL.cons ?_ .nil
       first | exact .bool | exact .int | exact .str | exact .rs0 | exact .nils | exact .nilp | exact .nilf | skip)
  case rs => exact .rs _ (by assumption) (by assumption) (by assumption) (by assumption) (by assumption)
  case rp => exact .rp _ (by assumption) (by assumption)
  case sl => exact .sl (by assumption) (by assumption) (by assumption) (by assumption) (by assumption)
  case ptr => exact .ptr (by assumption)
  case fn => exact .fn (by assumption) (by assumption) (by assumption) (by assumption)
theorem RelL.ones {K σ cs vs} (h : RelL K σ cs vs) (ho : oneL cs = true) : ∀ v ∈ vs, v.oneCell' = true := fun v hv => by
  obtain ⟨i, hi, rfl⟩ := List.mem_iff_getElem.1 hv
  have : i < cs.length := by rw [← h.1]; exact hi
  exact (h.2 i cs[i] vs[i] (by simp [this]) (by simp [hi])).one (oneL_mem ho i _ (by simp [this]))

/-! ### Memories -/
structure Sim (K : Kn) (σ : Sg) (h : Hp) (w : World) : Prop where
  kn : ∀ b o v, K b o = some v → w.cell? ⟨b, o, none⟩ = some v ∧ v.oneCell' = true
  bk : ∀ l B, h.get l = some B → ∃ x c t, σ l = some x ∧ x.sz = B.sz ∧ w.heap[x.b]? = some (.cells c t (0, 0)) ∧ c.size = x.tot ∧ x.base + B.es.length * B.sz ≤ x.tot ∧ (∀ e ∈ B.es, e.length = B.sz) ∧
    (∀ (i j : Nat) e a, B.es[i]? = some e → e[j]? = some a → ∃ v, c[x.base + i * B.sz + j]? = some v ∧ v.oneCell' = true ∧ Rel K σ a v) ∧ ∀ o, K x.b o = none
  dj : ∀ l l' B B' x x', h.get l = some B → h.get l' = some B' → σ l = some x → σ l' = some x' → x.b = x'.b → l = l'

def Own (σ : Sg) (h : Hp) (b : Nat) : Prop := ∃ l B x, h.get l = some B ∧ σ l = some x ∧ x.b = b

structure Ext (K : Kn) (σ : Sg) (h : Hp) (w : World) (K' : Kn) (σ' : Sg) (h' : Hp) (w' : World) : Prop where
  kle : KLe K K'
  sle : SLe σ σ'
  size : w.heap.size ≤ w'.heap.size
  keep : ∀ b, b < w.heap.size → ¬ Own σ h b → w'.heap[b]? = w.heap[b]?
  kold : ∀ b, b < w.heap.size → ¬ Own σ h b → ∀ o, K' b o = K b o
  own : ∀ b, Own σ' h' b → w.heap.size ≤ b ∨ Own σ h b
  os : w'.os = w.os
  tape : w'.tape = w.tape
  output : w'.output = w.output
  frozen : ∀ a, w'.frozen? a = w.frozen? a

theorem Ext.refl (K σ h w) : Ext K σ h w K σ h w := ⟨KLe.refl _, SLe.refl _, Nat.le_refl _, fun _ _ _ => rfl, fun _ _ _ _ => rfl, fun _ h => .inr h, rfl, rfl, rfl, fun _ => rfl⟩
theorem Ext.trans {K σ h w K1 σ1 h1 w1 K2 σ2 h2 w2} (e : Ext K σ h w K1 σ1 h1 w1) (e' : Ext K1 σ1 h1 w1 K2 σ2 h2 w2) : Ext K σ h w K2 σ2 h2 w2 := by
  have no : ∀ b, b < w.heap.size → ¬ Own σ h b → ¬ Own σ1 h1 b := fun b hb hn ho => by
    rcases e.own b ho with h | h
    · omega
    · exact hn h
  refine ⟨e.kle.trans e'.kle, e.sle.trans e'.sle, Nat.le_trans e.size e'.size, fun b hb hn => ?_, fun b hb hn o => ?_, fun b hb => ?_, e'.os.trans e.os, e'.tape.trans e.tape, e'.output.trans e.output, fun a => (e'.frozen a).trans (e.frozen a)⟩
  · rw [e'.keep b (Nat.lt_of_lt_of_le hb e.size) (no b hb hn), e.keep b hb hn]
  · rw [e'.kold b (Nat.lt_of_lt_of_le hb e.size) (no b hb hn), e.kold b hb hn]
  · rcases e'.own b hb with h | h
    · exact .inl (Nat.le_trans e.size h)
    · exact e.own b h

end Go.Proofs.YtnibcojenlijgaaGreatDoor.Ev
