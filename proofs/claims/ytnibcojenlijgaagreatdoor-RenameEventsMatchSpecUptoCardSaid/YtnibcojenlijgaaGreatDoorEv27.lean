/- What an argument reads as: the kinds of its cells. No condition. -/
import Derived.Test.YtnibcojenlijgaaGreatDoorEv26
set_option linter.unusedVariables false
set_option linter.unusedSimpArgs false
namespace Go.Proofs.YtnibcojenlijgaaGreatDoor.Ev
open Go Go.RowKit

/-- The kind of a cell. -/
inductive CK where
  | bool
  | int (k : IntKind)
  | str
  | sl (cs : List CK)
inductive Fits : CK → AV → Prop
  | bool {b} : Fits .bool (.bool b)
  | int {k n} (h : (Lit.int k n).wf = true) : Fits (.int k) (.int k n)
  | str {s} (h : s.size ≤ maxLen) : Fits .str (.str s)
  | sl {cs es} (hl : es.length ≤ maxLen) (hn : ∀ e ∈ es, e.length = cs.length) (h : ∀ e ∈ es, ∀ (i : Nat) c a, cs[i]? = some c → e[i]? = some a → Fits c a) : Fits (.sl cs) (.rs es)
def FitsL (cs : List CK) (e : List AV) : Prop := e.length = cs.length ∧ ∀ (i : Nat) c a, cs[i]? = some c → e[i]? = some a → Fits c a
theorem FitsL.nil : FitsL [] [] := ⟨rfl, fun i c a h => by simp at h⟩
theorem FitsL.one {c : CK} {a : AV} (h : Fits c a) : FitsL [c] [a] := ⟨rfl, fun i c' a' h1 h2 => by
  cases i with
  | zero => simp at h1 h2; subst h1 h2; exact h
  | succ i => simp at h1⟩
theorem FitsL.append {cs ds : List CK} {e f : List AV} (h : FitsL cs e) (h' : FitsL ds f) : FitsL (cs ++ ds) (e ++ f) := by
  refine ⟨by simp [h.1, h'.1], fun i c a h1 h2 => ?_⟩
  by_cases hi : i < cs.length
  · rw [List.getElem?_append_left hi] at h1
    rw [List.getElem?_append_left (by rw [h.1]; exact hi)] at h2
    exact h.2 i c a h1 h2
  · rw [List.getElem?_append_right (by omega)] at h1
    rw [List.getElem?_append_right (by rw [h.1]; omega), h.1] at h2
    exact h'.2 _ c a h1 h2
theorem FitsL.cons {c : CK} {cs : List CK} {e : List AV} (h : FitsL (c :: cs) e) : ∃ a r, e = a :: r ∧ Fits c a ∧ FitsL cs r := by
  cases e with
  | nil => have := h.1; simp at this
  | cons a r =>
    refine ⟨a, r, rfl, h.2 0 c a rfl rfl, by have := h.1; simpa using this, fun i c' a' h1 h2 => h.2 (i + 1) c' a' (by simpa using h1) (by simpa using h2)⟩
theorem FitsL.isNil {e : List AV} (h : FitsL [] e) : e = [] := List.length_eq_zero_iff.1 h.1

def kindsT (P : Program) : Nat → TypeId → List CK
  | 0, _ => []
  | n + 1, t => match P.underlying t with
    | some .bool => [.bool]
    | some (.int k) => [.int k]
    | some .string => [.str]
    | some (.slice e) => [.sl (kindsT P n e)]
    | some (.struct fs) => fs.toList.flatMap fun f => kindsT P n f.type
    | _ => []

theorem fields_fits {P : Program} {H : Type} {enc : TypeId × Value → H} {w : World} {base : Nat} {spare : Nat → Bool} {held : Bool} {n m : Nat}
    (ih : ∀ (t : TypeId), okT P n t = true → ∀ (cs : List Value) (d : DataW H) (ps : List MemPlace), DataW.trod enc P w base spare held m t cs = some (d, ps) → FitsL (kindsT P n t) (avT P n t d)) (cs : List Value) :
    ∀ (fs : List Field) (xs : List (DataW H × List MemPlace)), (∀ f ∈ fs, okT P n f.type = true) →
      fs.mapM (fun f => DataW.trod enc P w base spare held m f.type ((cs.drop f.offset).take (P.cellsOf f.type))) = some xs →
      FitsL (fs.flatMap fun f => kindsT P n f.type) ((fs.zip (xs.map (·.1))).flatMap fun p => avT P n p.1.type p.2) := by
  intro fs
  induction fs with
  | nil => intro xs _ hm; exact .nil
  | cons f fs ihf =>
    intro xs hok hm
    simp only [List.mapM_cons, Option.bind_eq_bind, Option.bind_eq_some_iff, Option.pure_def, Option.some.injEq] at hm
    obtain ⟨x, hx, ys, hys, rfl⟩ := hm
    obtain ⟨d, q⟩ := x
    simp only [List.map_cons, List.zip_cons_cons, List.flatMap_cons]
    exact (ih f.type (hok f (List.mem_cons_self ..)) _ _ _ hx).append (ihf ys (fun g hg => hok g (List.mem_cons_of_mem _ hg)) hys)

theorem trod_fits {P : Program} {H : Type} {enc : TypeId × Value → H} {w : World} {base : Nat} {spare : Nat → Bool} {held : Bool} : ∀ (n : Nat) (t : TypeId), okT P n t = true → ∀ (m : Nat) (cs : List Value) (d : DataW H) (ps : List MemPlace),
    DataW.trod enc P w base spare held m t cs = some (d, ps) → FitsL (kindsT P n t) (avT P n t d) := by
  intro n
  induction n with
  | zero => intro t h; cases h
  | succ n ih =>
    intro t hok m cs d ps htr
    cases m with
    | zero => simp [DataW.trod] at htr
    | succ m =>
      simp only [okT] at hok
      unfold DataW.trod at htr
      cases hu : P.underlying t with
      | none => rw [hu] at hok; cases hok
      | some u =>
        rw [hu] at hok
        cases u <;> simp only at hok <;> try (cases hok; done)
        case bool =>
          simp only [hu] at htr
          split at htr <;> rename_i he <;> try (cases he; done)
          all_goals try (simp at he; done)
          all_goals try (cases htr; done)
          · cases htr
            simp only [avT, kindsT, hu]
            exact .one .bool
        case int k =>
          simp only [hu] at htr
          split at htr <;> rename_i he <;> try (cases he; done)
          all_goals try (simp at he; done)
          all_goals try (cases htr; done)
          · cases he
            split at htr
            · rename_i hk
              obtain ⟨rfl, hw⟩ := hk
              cases htr
              simp only [avT, kindsT, hu]
              exact .one (.int hw)
            · cases htr
        case string =>
          simp only [hu] at htr
          split at htr <;> rename_i he <;> try (cases he; done)
          all_goals try (simp at he; done)
          all_goals try (cases htr; done)
          · split at htr
            · rename_i hs
              cases htr
              simp only [avT, kindsT, hu]
              exact .one (.str hs)
            · cases htr
        case slice e =>
          rw [Bool.and_eq_true] at hok
          simp only [hu] at htr
          split at htr <;> rename_i he <;> try (cases he; done)
          all_goals try (simp at he; done)
          all_goals try (cases htr; done)
          · cases htr
            simp only [avT, kindsT, hu]
            exact .one (.sl (Nat.zero_le _) (fun e h => by cases h) (fun e h => by cases h))
          · cases he
            rename_i a len cap
            split at htr
            · rename_i hb
              simp only [Option.bind_eq_some_iff, Option.map_eq_some_iff] at htr
              obtain ⟨elems, hel, rest, hrest, heq⟩ := htr
              simp only [Prod.mk.injEq] at heq
              obtain ⟨rfl, _⟩ := heq
              simp only [avT, kindsT, hu]
              have hlen : elems.length = len := by have := mapM_some_length hel; rw [List.length_range] at this; exact this
              have hall : ∀ q ∈ (elems.map (·.1)).map (avT P n e), FitsL (kindsT P n e) q := fun q hq => by
                obtain ⟨d, hd, rfl⟩ := List.mem_map.1 hq
                obtain ⟨y, hy, rfl⟩ := List.mem_map.1 hd
                obtain ⟨i, hi, rfl⟩ := List.getElem_of_mem hy
                have := mapM_some_get hel i i (List.getElem?_range (by omega))
                rw [List.getElem?_eq_getElem hi] at this
                obtain ⟨ci, h1, h2⟩ := Option.bind_eq_some_iff.1 this
                exact ih e hok.2 m ci _ _ h2
              exact .one (.sl (by simp only [List.length_map]; omega) (fun q hq => (hall q hq).1) (fun q hq => (hall q hq).2))
            · cases htr
        case struct fs =>
          rw [Bool.and_eq_true] at hok
          simp only [hu] at htr
          split at htr
          · simp only [Option.map_eq_some_iff] at htr
            obtain ⟨xs, hxs, heq⟩ := htr
            simp only [Prod.mk.injEq] at heq
            obtain ⟨rfl, _⟩ := heq
            simp only [avT, kindsT, hu]
            exact fields_fits (fun t ht cs d ps h => ih t ht m cs d ps h) cs fs.toList xs (fun f hf => List.all_eq_true.1 hok.2 f hf) hxs
          · cases htr
end Go.Proofs.YtnibcojenlijgaaGreatDoor.Ev
