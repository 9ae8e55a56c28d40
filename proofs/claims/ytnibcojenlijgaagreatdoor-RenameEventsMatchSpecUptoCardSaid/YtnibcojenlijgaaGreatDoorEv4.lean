/- The operations' laws: memory. No condition. -/
import Derived.Test.YtnibcojenlijgaaGreatDoorEv3
import Derived.RowKit3
set_option linter.unusedVariables false
namespace Go.Proofs.YtnibcojenlijgaaGreatDoor.Ev
open Go Go.RowKit

/-! ### The abstract heap -/
theorem beq_false_of_ne {a b : Nat} (h : a ≠ b) : Nat.beq a b = false := by
  cases hb : Nat.beq a b with
  | false => rfl
  | true => exact absurd (Nat.eq_of_beq_eq_true hb) h
theorem alook_ains_self {l : Nat} (b : Blk) (L : List (Nat × Blk)) (hn : alook L l = none) : alook (ains l b L) l = some b := by
  induction L with
  | nil => simp [ains, alook]
  | cons x r ih =>
    obtain ⟨k, c⟩ := x
    simp only [alook] at hn
    simp only [ains]
    cases hk : Nat.beq k l with
    | true => simp [hk] at hn
    | false =>
      simp only [hk, cond_false] at hn
      cases hb : Nat.blt k l with
      | true => simp [alook]
      | false => simp [alook, hk, ih hn]
theorem alook_ains_other {l k : Nat} (b : Blk) (L : List (Nat × Blk)) (h : k ≠ l) : alook (ains l b L) k = alook L k := by
  have hl := beq_false_of_ne (Ne.symm h)
  induction L with
  | nil => simp [ains, alook, hl]
  | cons x r ih =>
    obtain ⟨k', c⟩ := x
    simp only [ains]
    cases hb : Nat.blt k' l with
    | true => simp [alook, hl]
    | false => simp [alook, ih]
theorem alook_adel_other {l k : Nat} (L : List (Nat × Blk)) (h : k ≠ l) : alook (adel L l) k = alook L k := by
  induction L with
  | nil => simp [adel]
  | cons x r ih =>
    obtain ⟨k', c⟩ := x
    simp only [adel, alook]
    cases hb : Nat.beq k' l with
    | true =>
      obtain rfl := Nat.eq_of_beq_eq_true hb
      simp [ih, beq_false_of_ne (Ne.symm h)]
    | false => simp [alook, ih]
theorem alook_adel_self {l : Nat} (L : List (Nat × Blk)) : alook (adel L l) l = none := by
  induction L with
  | nil => simp [adel, alook]
  | cons x r ih =>
    obtain ⟨k', c⟩ := x
    simp only [adel]
    cases hb : Nat.beq k' l with
    | true => simp [ih]
    | false => simp [alook, ih, hb]
theorem alook_aset_other {l k : Nat} (b : Blk) (L : List (Nat × Blk)) (h : k ≠ l) : alook (aset L l b) k = alook L k := by
  induction L with
  | nil => simp [aset]
  | cons x r ih =>
    obtain ⟨k', c⟩ := x
    simp only [aset]
    cases hb : Nat.beq k' l with
    | true =>
      obtain rfl := Nat.eq_of_beq_eq_true hb
      simp [alook, beq_false_of_ne (Ne.symm h)]
    | false => simp [alook, ih]
theorem alook_aset_self {l : Nat} (b c : Blk) (L : List (Nat × Blk)) (h : alook L l = some c) : alook (aset L l b) l = some b := by
  induction L with
  | nil => simp [alook] at h
  | cons x r ih =>
    obtain ⟨k', d⟩ := x
    simp only [alook] at h
    simp only [aset]
    cases hb : Nat.beq k' l with
    | true => simp [alook, hb]
    | false => simp only [hb, cond_false] at h; simp [alook, hb, ih h]
theorem Hp.get_new_self {h : Hp} {l : Nat} (b : Blk) (hn : h.get l = none) : (h.new l b).get l = some b := alook_ains_self b _ hn
theorem Hp.get_new_other {h : Hp} {l k : Nat} (b : Blk) (hk : k ≠ l) : (h.new l b).get k = h.get k := alook_ains_other b _ hk
theorem Hp.get_set_self {h : Hp} {l : Nat} (b : Blk) {c : Blk} (hn : h.get l = some c) : (h.set l b).get l = some b := alook_aset_self b c _ hn
theorem Hp.get_set_other {h : Hp} {l k : Nat} (b : Blk) (hk : k ≠ l) : (h.set l b).get k = h.get k := alook_aset_other b _ hk
theorem Hp.get_del_self {h : Hp} {l : Nat} : (h.del l).get l = none := alook_adel_self _
theorem Hp.get_del_other {h : Hp} {l k : Nat} (hk : k ≠ l) : (h.del l).get k = h.get k := alook_adel_other _ hk

/-! ### Memories -/
theorem cell?_heap {w w' : World} {a : Addr} (h : w'.heap[a.block]? = w.heap[a.block]?) : w'.cell? a = w.cell? a := by unfold World.cell?; rw [h]
theorem block_lt {w : World} {b o : Nat} {v : Value} (h : w.cell? ⟨b, o, none⟩ = some v) : b < w.heap.size := World.block_lt_of_cell? w _ h
theorem heap_lt {w : World} {b : Nat} {o : Obj} (h : w.heap[b]? = some o) : b < w.heap.size := (Array.getElem?_eq_some_iff.1 h).1

theorem Sim.get_none {K σ h w} (hS : Sim K σ h w) {l : Nat} (hl : σ l = none) : h.get l = none := by
  cases hg : h.get l with
  | none => rfl
  | some B =>
    obtain ⟨x, _, _, hx, _⟩ := hS.bk l B hg
    rw [hl] at hx; cases hx
/-- A world in which every old block is the same. -/
theorem Sim.grow {K σ h w w'} (hS : Sim K σ h w) (hk : ∀ b, b < w.heap.size → w'.heap[b]? = w.heap[b]?) : Sim K σ h w' where
  kn b o v hv := by
    have := hS.kn b o v hv
    exact ⟨(cell?_heap (hk b (block_lt this.1))).trans this.1, this.2⟩
  bk l B hl := by
    obtain ⟨x, c, t, h1, h2, h3, h4⟩ := hS.bk l B hl
    exact ⟨x, c, t, h1, h2, (hk _ (heap_lt h3)).trans h3, h4⟩
  dj := hS.dj
theorem alloc_heap (w : World) (o : Obj) (b : Nat) (hb : b < w.heap.size) : (w.alloc o).heap[b]? = w.heap[b]? := by
  show (w.heap.push o)[b]? = _; simp [Array.getElem?_push, Nat.ne_of_lt hb]
theorem alloc_heap_new (w : World) (o : Obj) : (w.alloc o).heap[w.heap.size]? = some o := by show (w.heap.push o)[w.heap.size]? = _; simp
theorem alloc_size (w : World) (o : Obj) : (w.alloc o).heap.size = w.heap.size + 1 := by show (w.heap.push o).size = _; simp
theorem Ext.grow {K σ h w} (o : Array Value) (t : TypeId) : Ext K σ h w K σ h (w.alloc (.cells o t)) :=
  ⟨KLe.refl _, SLe.refl _, by rw [alloc_size]; omega, fun b hb _ => alloc_heap w _ b hb, fun _ _ _ _ => rfl, fun b hb => .inr hb, rfl, rfl, rfl, fun a => frozen?_alloc_cells w o t a⟩
theorem Ext.drew {K σ h w} : Ext K σ h w K σ h w.drew := ⟨KLe.refl _, SLe.refl _, Nat.le_refl _, fun _ _ _ => rfl, fun _ _ _ _ => rfl, fun b hb => .inr hb, rfl, rfl, rfl, fun _ => rfl⟩

def sput (σ : Sg) (l : Nat) (x : Sl) : Sg := fun k => if k = l then some x else σ k
theorem sput_le {σ : Sg} {l : Nat} {x : Sl} (h : σ l = none) : SLe σ (sput σ l x) := fun k y hy => by
  unfold sput
  split
  · rename_i he; subst he; rw [h] at hy; cases hy
  · exact hy
theorem sput_self {σ : Sg} {l : Nat} {x : Sl} : sput σ l x l = some x := by simp [sput]
theorem sput_other {σ : Sg} {l k : Nat} {x : Sl} (h : k ≠ l) : sput σ l x k = σ k := by simp [sput, h]

/-- The cells of a row of elements. -/
structure Row (K : Kn) (σ : Sg) (sz : Nat) (es : List (List AV)) (base : Nat) (c : Array Value) : Prop where
  fit : base + es.length * sz ≤ c.size
  len : ∀ e ∈ es, e.length = sz
  at_ : ∀ (i j : Nat) e a, es[i]? = some e → e[j]? = some a → ∃ v, c[base + i * sz + j]? = some v ∧ v.oneCell' = true ∧ Rel K σ a v

/-- A new block. -/
theorem Sim.new {K σ h w} (hS : Sim K σ h w) {fr : Nat} (hf : σ fr = none) {sz : Nat} {es : List (List AV)} {c : Array Value} (t : TypeId) (hr : Row K σ sz es 0 c) :
    Sim K (sput σ fr ⟨w.heap.size, 0, sz, c.size⟩) (h.new fr ⟨sz, es⟩) (w.alloc (.cells c t)) ∧
    Ext K σ h w K (sput σ fr ⟨w.heap.size, 0, sz, c.size⟩) (h.new fr ⟨sz, es⟩) (w.alloc (.cells c t)) := by
  have hn := hS.get_none hf
  have hg := hS.grow (w' := w.alloc (.cells c t)) (fun b hb => alloc_heap w _ b hb)
  have hle := sput_le (x := ⟨w.heap.size, 0, sz, c.size⟩) hf
  refine ⟨⟨hg.kn, fun l B hl => ?_, fun l l' B B' x x' h1 h2 h3 h4 h5 => ?_⟩, ?_⟩
  · by_cases he : l = fr
    · subst he
      rw [Hp.get_new_self _ hn] at hl
      cases hl
      refine ⟨_, c, t, sput_self, rfl, alloc_heap_new w _, rfl, by simpa using hr.fit, hr.len, fun i j e a h1 h2 => ?_, fun o => ?_⟩
      · obtain ⟨v, h3, h4, h5⟩ := hr.at_ i j e a h1 h2
        exact ⟨v, h3, h4, h5.mono (KLe.refl _) hle⟩
      · cases hk : K w.heap.size o with
        | none => rfl
        | some v => exact absurd (block_lt (hS.kn _ _ _ hk).1) (by simp)
    · rw [Hp.get_new_other _ he] at hl
      obtain ⟨x, c', t', h1, h2, h3, h4, h5, h6, h7, h8⟩ := hg.bk l B hl
      exact ⟨x, c', t', hle _ _ h1, h2, h3, h4, h5, h6, fun i j e a g1 g2 => by
        obtain ⟨v, g3, g4, g5⟩ := h7 i j e a g1 g2
        exact ⟨v, g3, g4, g5.mono (KLe.refl _) hle⟩, h8⟩
  · have key : ∀ {l B x}, (h.new fr ⟨sz, es⟩).get l = some B → sput σ fr ⟨w.heap.size, 0, sz, c.size⟩ l = some x → (l = fr ∧ x.b = w.heap.size) ∨ (l ≠ fr ∧ h.get l = some B ∧ σ l = some x ∧ x.b < w.heap.size) := by
      intro l B x g1 g2
      by_cases he : l = fr
      · subst he; rw [sput_self] at g2; cases g2; exact .inl ⟨rfl, rfl⟩
      · rw [Hp.get_new_other _ he] at g1
        rw [sput_other he] at g2
        obtain ⟨y, _, _, e1, _, e3, _⟩ := hS.bk l B g1
        rw [g2] at e1; cases e1
        exact .inr ⟨he, g1, g2, heap_lt e3⟩
    rcases key h1 h3 with ⟨rfl, e⟩ | ⟨_, a1, a2, a3⟩ <;> rcases key h2 h4 with ⟨rfl, e'⟩ | ⟨_, b1, b2, b3⟩
    · rfl
    · omega
    · omega
    · exact hS.dj l l' B B' x x' a1 b1 a2 b2 h5
  · have e := Ext.grow (K := K) (σ := σ) (h := h) (w := w) c t
    refine ⟨KLe.refl _, hle, e.size, e.keep, e.kold, fun b hb => ?_, rfl, rfl, rfl, e.frozen⟩
    obtain ⟨l, B, x, g1, g2, rfl⟩ := hb
    by_cases he : l = fr
    · subst he; rw [sput_self] at g2; cases g2; exact .inl (Nat.le_refl _)
    · rw [Hp.get_new_other _ he] at g1
      rw [sput_other he] at g2
      exact .inr ⟨l, B, x, g1, g2, rfl⟩

/-- The cells of an element of a block. -/
theorem Sim.elem {K σ h w} (hS : Sim K σ h w) {l : Nat} {B : Blk} (hl : h.get l = some B) {x : Sl} (hx : σ l = some x) {i : Nat} {cs : List AV} (hi : B.es[i]? = some cs) :
    ∃ vs, RelL K σ cs vs ∧ (∀ v ∈ vs, v.oneCell' = true) ∧ ∀ (j : Nat) v, vs[j]? = some v → w.cell? ⟨x.b, x.base + i * x.sz + j, none⟩ = some v := by
  obtain ⟨y, c, t, h1, h2, h3, h4, h5, h6, h7, h8⟩ := hS.bk l B hl
  rw [hx] at h1; cases h1
  have hval : ∀ j, j < cs.length → ∃ v, c[x.base + i * x.sz + j]? = some v ∧ v.oneCell' = true ∧ ∀ a, cs[j]? = some a → Rel K σ a v := fun j hj => by
    obtain ⟨v, g1, g2, g3⟩ := h7 i j cs cs[j] hi (by simp [hj])
    exact ⟨v, by rw [h2]; exact g1, g2, fun a ha => by simp [hj] at ha; exact ha ▸ g3⟩
  refine ⟨(List.range cs.length).map fun j => (c[x.base + i * x.sz + j]?).getD undef, ⟨by simp, fun j a v g1 g2 => ?_⟩, fun v hv => ?_, fun j v g => ?_⟩
  · have hj : j < cs.length := (List.getElem?_eq_some_iff.1 g1).1
    obtain ⟨u, e1, e2, e3⟩ := hval j hj
    simp [hj, e1] at g2
    exact g2 ▸ e3 a g1
  · obtain ⟨j, hj, rfl⟩ := List.mem_map.1 hv
    obtain ⟨u, e1, e2, e3⟩ := hval j (List.mem_range.1 hj)
    simp [e1, e2]
  · have hj : j < cs.length := by have := (List.getElem?_eq_some_iff.1 g).1; simpa using this
    obtain ⟨u, e1, e2, e3⟩ := hval j hj
    simp [hj, e1] at g
    simp [World.cell?, h3, e1, g]
end Go.Proofs.YtnibcojenlijgaaGreatDoor.Ev
