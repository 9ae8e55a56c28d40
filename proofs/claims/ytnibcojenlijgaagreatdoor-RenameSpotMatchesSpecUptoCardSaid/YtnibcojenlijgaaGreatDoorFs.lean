/- A spot as plain data. No condition. -/
import Derived.Test.YtnibcojenlijgaaGreatDoorFi
import Derived.Test.YtnibcojenlijgaaGreatDoorFg
set_option linter.unusedVariables false
set_option linter.unusedSimpArgs false
namespace Go.Proofs.YtnibcojenlijgaaGreatDoor.Ev
open Go Go.RowKit
abbrev kSpt : List CK := [cI, cI, cI, cI]
theorem dec_spt {q : List AV} (h : FitsL kSpt q) : ∃ x : Spt, q = x.enc ∧ (-9223372036854775808 ≤ x.offset ∧ x.offset < 9223372036854775808) := by
  obtain ⟨a0, r0, rfl, f0, h⟩ := h.cons
  obtain ⟨a1, r1, rfl, f1, h⟩ := h.cons
  obtain ⟨a2, r2, rfl, f2, h⟩ := h.cons
  obtain ⟨a3, r3, rfl, f3, h⟩ := h.cons
  obtain rfl := h.isNil
  obtain ⟨x0, rfl, w0⟩ := fits_int f0
  obtain ⟨x1, rfl, w1⟩ := fits_int f1
  obtain ⟨x2, rfl, w2⟩ := fits_int f2
  obtain ⟨x3, rfl, w3⟩ := fits_int f3
  have := i64_range w3
  exact ⟨⟨x0, x1, x2, x3⟩, rfl, by show _ ≤ x3 ∧ x3 < _; omega⟩
end Go.Proofs.YtnibcojenlijgaaGreatDoor.Ev
