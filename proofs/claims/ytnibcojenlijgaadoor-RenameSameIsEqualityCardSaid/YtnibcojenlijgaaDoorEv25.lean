/- Two lists of events: what 'rename.Same' and its twin answer. No condition. -/
import Derived.Test.YtnibcojenlijgaaDoorEv24
set_option linter.unusedVariables false
set_option linter.unusedSimpArgs false
namespace Go.Proofs.YtnibcojenlijgaaDoor.Ev
open Go Go.RowKit
set_option maxRecDepth 10000

theorem idx_map {α : Type} {enc : α → List AV} {l : List α} {k : Nat} {sz : Nat} (hk : k < l.length) (hl : ∀ x, (enc x).length = sz) : idxAddr sz (.rs (l.map enc)) (k : Int) = some (.rp (enc l[k]) 0) := by
  simp [idxAddr, hk, hl]
theorem wrap_nat {n : Nat} (h : n < 9223372036854775807) : IntKind.wrap .i64 ((n : Int) + 1) = ((n + 1 : Nat) : Int) := by
  simp [IntKind.wrap, IntKind.signed, IntKind.bits]
  omega
structure SEv where
  core : Int
  unit : Int
  module : Int
  sect : Int
  offset : Int
  trap : Int
def SEv.enc (x : SEv) : List AV := [.int .i64 x.core, .int .i64 x.unit, .int .i64 x.module, .int .i64 x.sect, .int .i64 x.offset, .int .i64 x.trap]
def sameB (a b : SEv) : Bool := (a.core == b.core) && ((a.unit == b.unit) && ((a.module == b.module) && ((a.sect == b.sect) && ((a.offset == b.offset) && ((a.trap == b.trap) && true)))))
def sameL : List SEv → List SEv → Bool
  | [], [] => true
  | a :: l, b :: m => sameB a b && sameL l m
  | _, _ => false
theorem sameL_len : ∀ {a b : List SEv}, a.length ≠ b.length → sameL a b = false := by
  intro a
  induction a with
  | nil => intro b h; cases b with
    | nil => exact absurd rfl h
    | cons y b => simp [sameL]
  | cons x a ih => intro b h; cases b with
    | nil => simp [sameL]
    | cons y b => simp only [sameL]; rw [ih (by simpa using h)]; simp
theorem sameL_self : ∀ (a : List SEv), sameL a a = true := by
  intro a
  induction a with
  | nil => rfl
  | cons x a ih => simp [sameL, sameB, ih]
theorem F10 (a b : List SEv) (ha : a.length ≤ maxLen) : Rt T 10 [.rs (a.map SEv.enc), .rs (b.map SEv.enc)] (.bool (sameL a b)) := by
  refine Rt.wp rfl rfl ?_
  refine Br.mk (fun h1 => ?_) (fun h1 => ?_)
  · refine eq_bool ?_
    simp at h1
    rw [sameL_len (by omega)]
  · have hl : a.length = b.length := by simp at h1; omega
    refine LoopP.by (α := Nat) (fun k => a.length - k) (fun k => k ≤ a.length ∧ sameL a b = sameL (a.drop k) (b.drop k)) (fun k => [.int .i64 k]) (fun k => []) 0 ⟨Nat.zero_le _, rfl⟩ rfl (fun k hk => ?_)
    refine Br.mk (fun h1 => ?_) (fun h1 => ?_)
    · have hlt : k < a.length := by simp at h1; omega
      have hlt' : k < b.length := by omega
      have e1 : sameL (a.drop k) (b.drop k) = (sameB a[k] b[k] && sameL (a.drop (k + 1)) (b.drop (k + 1))) := by
        rw [List.drop_eq_getElem_cons hlt, List.drop_eq_getElem_cons hlt']; simp only [sameL]
      refine And.intro rfl ?_
      refine SomeP.mk' (idx_map hlt fun _ => rfl) ?_
      refine SomeP.mk' (idx_map hlt' fun _ => rfl) ?_
      refine Br.mk (fun h1 => ?_) (fun h1 => ?_)
      · refine eq_bool ?_
        have h2 : (!sameB a[k] b[k]) = true := h1
        rw [hk.2, e1]
        simp at h2
        simp [h2]
      · have h2 : (!sameB a[k] b[k]) = false := h1
        refine ⟨k + 1, by omega, ⟨by omega, ?_⟩, ?_⟩
        · rw [hk.2, e1]; simp at h2; simp [h2]
        · rw [← wrap_nat (show k < 9223372036854775807 by unfold maxLen at ha; omega)]; rfl
    · refine eq_bool ?_
      have : ¬ k < a.length := by simp at h1; omega
      rw [hk.2, List.drop_of_length_le (by omega), List.drop_of_length_le (by omega)]
      rfl
theorem F18 (a b : List SEv) (ha : a.length ≤ maxLen) : Rt T 18 [.rs (a.map SEv.enc), .rs (b.map SEv.enc)] (.bool (sameL a b)) := by
  refine Rt.wp rfl rfl ?_
  refine Br.mk (fun h1 => ?_) (fun h1 => ?_)
  · refine eq_bool ?_
    simp at h1
    rw [sameL_len (by omega)]
  · have hl : a.length = b.length := by simp at h1; omega
    refine LoopP.by (α := Nat) (fun k => a.length - k) (fun k => k ≤ a.length ∧ sameL a b = sameL (a.drop k) (b.drop k)) (fun k => [.int .i64 k]) (fun k => []) 0 ⟨Nat.zero_le _, rfl⟩ rfl (fun k hk => ?_)
    refine Br.mk (fun h1 => ?_) (fun h1 => ?_)
    · have hlt : k < a.length := by simp at h1; omega
      have hlt' : k < b.length := by omega
      have e1 : sameL (a.drop k) (b.drop k) = (sameB a[k] b[k] && sameL (a.drop (k + 1)) (b.drop (k + 1))) := by
        rw [List.drop_eq_getElem_cons hlt, List.drop_eq_getElem_cons hlt']; simp only [sameL]
      refine And.intro rfl ?_
      refine SomeP.mk' (idx_map hlt fun _ => rfl) ?_
      refine SomeP.mk' (idx_map hlt' fun _ => rfl) ?_
      refine Br.mk (fun h1 => ?_) (fun h1 => ?_)
      · refine eq_bool ?_
        have h2 : (!sameB a[k] b[k]) = true := h1
        rw [hk.2, e1]
        simp at h2
        simp [h2]
      · have h2 : (!sameB a[k] b[k]) = false := h1
        refine ⟨k + 1, by omega, ⟨by omega, ?_⟩, ?_⟩
        · rw [hk.2, e1]; simp at h2; simp [h2]
        · rw [← wrap_nat (show k < 9223372036854775807 by unfold maxLen at ha; omega)]; rfl
    · refine eq_bool ?_
      have : ¬ k < a.length := by simp at h1; omega
      rw [hk.2, List.drop_of_length_le (by omega), List.drop_of_length_le (by omega)]
      rfl
theorem F9 (a b : List SEv) (ha : a.length ≤ maxLen) : Rt T 9 [.rs (a.map SEv.enc), .rs (b.map SEv.enc)] (.bool (sameL a b)) := by
  refine Rt.wp rfl rfl ?_
  refine CallP.mk' (F18 a b ha) ?_
  exact eq_bool rfl
theorem F6 : Rt T 6 [] (.bool true) := ⟨40, by kernel_rfl⟩
theorem F4 (a b : List SEv) (ha : a.length ≤ maxLen) : Rt T 4 [.rs (a.map SEv.enc), .rs (b.map SEv.enc)] (.bool true) := by
  refine Rt.wp rfl rfl ?_
  refine CallP.mk' F6 ?_
  refine Br.T ?_
  refine Br.T ?_
  refine Br.T ?_
  refine CallP.mk' (F9 a b ha) ?_
  refine Br.T ?_
  refine Br.T ?_
  refine Br.T ?_
  refine CallP.mk' (F10 a b ha) ?_
  refine Br.T ?_
  refine Br.mk (fun h => ?_) (fun h => ?_)
  · refine Br.T ?_
    refine Br.T ?_
    refine CallP.mk' (F9 a a ha) ?_
    exact eq_bool (sameL_self a)
  · simp at h
end Go.Proofs.YtnibcojenlijgaaDoor.Ev
