/- Arguments, and what is left behind. No condition. -/
import Derived.Test.YtnibcojenlijgaaGreatDoorEv27
import Derived.Below
import Derived.Carry
import Derived.WideShapes
import Derived.Lib.LaidTab
set_option linter.unusedVariables false
set_option linter.unusedSimpArgs false
namespace Go.Proofs.YtnibcojenlijgaaGreatDoor.Ev
open Go Go.RowKit Go.WideShapes

def argAV (P : Program) {H : Type} (n : Nat) (t : TypeId) (d : DataW H) : AV := match P.underlying t with
  | some (.struct _) => .agg (avT P n t d)
  | _ => match avT P n t d with
    | [a] => a
    | _ => .top
theorem arg_rel {P : Program} {H : Type} {enc : TypeId × Value → H} {w : World} {base b0 : Nat} {spare : Nat → Bool} {held : Bool} {n : Nat} {t : TypeId} (hok : okT P n t = true) {v : Value} {d : DataW H} {ps : List MemPlace} (hval : Value.okWide P w .any b0 t v)
    (h : DataW.Trod enc P w base spare held t v d ps) : Rel (snap w) noSg (argAV P n t d) v := by
  obtain ⟨m, hm⟩ := h
  have h1 := (trod_rel n t hok m _ d ps hm).1
  have single : v.cells = #[v] → (∀ fs, P.underlying t ≠ some (.struct fs)) → Rel (snap w) noSg (argAV P n t d) v := fun hv hs => by
    rw [hv] at h1
    have hl := h1.1
    obtain ⟨a, ha⟩ : ∃ a, avT P n t d = [a] := by
      cases hx : avT P n t d with
      | nil => rw [hx] at hl; simp at hl
      | cons a r => cases r with
        | nil => exact ⟨a, rfl⟩
        | cons b r => rw [hx] at hl; simp at hl
    have e : argAV P n t d = a := by
      unfold argAV
      split
      · rename_i fs hf; exact absurd hf (hs fs)
      · rw [ha]
    rw [e]
    exact h1.2 0 a v (by rw [ha]; rfl) rfl
  cases n with
  | zero => cases hok
  | succ n =>
    simp only [okT] at hok
    cases hu : P.underlying t with
    | none => rw [hu] at hok; cases hok
    | some u =>
      rw [hu] at hok
      cases u <;> simp only at hok <;> try (cases hok; done)
      case bool => obtain ⟨b, rfl⟩ := okWide_bool hu hval; exact single rfl (by simp [hu])
      case int k => obtain ⟨b, rfl⟩ := okWide_int hu hval; exact single rfl (by simp [hu])
      case string => obtain ⟨b, rfl⟩ := okWide_string hu hval; exact single rfl (by simp [hu])
      case slice e => obtain ⟨a, l, c, rfl⟩ := okWide_slice hu hval; exact single rfl (by simp [hu])
      case struct fs =>
        simp only [Value.okWide, hu] at hval
        obtain ⟨cs, rfl, _, _⟩ := hval
        simp only [argAV, hu]
        exact Rel.aggL.2 h1
theorem arg_fits {P : Program} {H : Type} {enc : TypeId × Value → H} {w : World} {base : Nat} {spare : Nat → Bool} {held : Bool} {n : Nat} {t : TypeId} (hok : okT P n t = true) {v : Value} {d : DataW H} {ps : List MemPlace}
    (h : DataW.Trod enc P w base spare held t v d ps) : FitsL (kindsT P n t) (avT P n t d) := by
  obtain ⟨m, hm⟩ := h
  exact trod_fits n t hok m _ d ps hm
theorem arg_sl {P : Program} {H : Type} {n : Nat} {t e : TypeId} {d : DataW H} {cs : List CK} (hu : P.underlying t = some (.slice e)) (hk : kindsT P n t = [.sl cs]) (h : FitsL (kindsT P n t) (avT P n t d)) :
    ∃ es, argAV P n t d = .rs es ∧ es.length ≤ maxLen ∧ ∀ q ∈ es, FitsL cs q := by
  rw [hk] at h
  obtain ⟨a, r, h1, h2, h3⟩ := h.cons
  have := h3.isNil
  subst this
  cases h2 with
  | sl hl hn hh =>
    rename_i es
    refine ⟨es, ?_, hl, fun q hq => ⟨hn q hq, hh q hq⟩⟩
    unfold argAV
    rw [hu, h1]
theorem Ext.below {K σ h w K' σ' h' w'} (e : Ext K σ h w K' σ' h' w') (hn : ∀ b, ¬ Own σ h b) : Below w.heap.size w w' := ⟨e.os, e.tape, e.output, e.size, fun k hk => e.keep k hk (hn k)⟩
theorem glob_laid {P : Program} {W : World} {name : String} {d : DataW Unit} {rest : List (String × DataW Unit)} {g : Nat} {t : TypeId} {n : Nat} (hg : P.globalNamed name = some g) (hty : (P.globals[g]?).map (·.type) = some t) (hok : okT P n t = true)
    (h : laidMet P ((name, d) :: rest) W) : ∃ f : Nat → Value, (∀ j, j < (avT P n t d).length → snap W g j = some (f j)) ∧ ∀ (j : Nat) a, (avT P n t d)[j]? = some a → Rel (snap W) (fun _ => none) a (f j) := by
  obtain ⟨ps, ⟨g', t', cs, fuel, p, q, hg', ht', hvar, hd, _, _⟩, _⟩ := h
  obtain rfl := Option.some.inj (hg.symm.trans hg')
  obtain rfl := Option.some.inj (hty.symm.trans ht')
  obtain ⟨h1, h2⟩ := trod_rel n t hok fuel _ d p hd
  have hl : cs.size = (avT P n t d).length := by have := h1.1; simpa using this
  refine ⟨fun j => (cs[j]?).getD undef, fun j hj => ?_, fun j a ha => ?_⟩
  · have hc := World.var?_cell hg hvar j
    have hj' : j < cs.size := by omega
    rw [Array.getElem?_eq_getElem hj'] at hc
    show snap W g j = some ((cs[j]?).getD undef)
    rw [Array.getElem?_eq_getElem hj']
    exact snap_mk hc (h2 _ (by simp))
  · have hj : j < (avT P n t d).length := (List.getElem?_eq_some_iff.1 ha).1
    have hj' : j < cs.size := by omega
    refine h1.2 j a _ ha ?_
    show cs.toList[j]? = some ((cs[j]?).getD undef)
    rw [Array.getElem?_toList, Array.getElem?_eq_getElem hj']
    rfl
/-- A law that answers true, for arguments that the evaluator knows. -/
theorem law_calls {C : Cfg} {f : FuncId} {args : List AV} (hs : Sound C f args (.bool true)) {W : World} {vargs : Array Value} (hg : GlobOK C (snap W)) (ha : RelL (snap W) noSg args vargs.toList) :
    Calls C.P f vargs W fun e W' => e = .returned (.bool true) ∧ Below W.heap.size W W' ∧ ∀ a, W'.frozen? a = W.frozen? a := by
  refine (hs.2 (snap W) W vargs (Sim.none_of fun b o v h => snap_some h) hg ha).mono fun e W' h => ?_
  obtain ⟨V, K', rfl, hr, _, hx⟩ := h
  cases hr
  exact ⟨rfl, hx.below no_own, hx.frozen⟩
end Go.Proofs.YtnibcojenlijgaaGreatDoor.Ev
