/- The operations' laws: loads and stores. No condition. -/
import Derived.Test.YtnibcojenlijgaaGreatDoorEv4
set_option linter.unusedVariables false
namespace Go.Proofs.YtnibcojenlijgaaGreatDoor.Ev
open Go Go.RowKit

section
variable {P : Program}
theorem run_isAgg' {t : TypeId} {b : Bool} (h : isAggT P t = some b) (w : World) : (isAgg t).run P w = .ok b w := by
  unfold isAggT at h
  cases hu : P.underlying t with
  | none => simp [hu] at h
  | some d => cases d <;> simp_all [isAgg, run_underlying hu]
theorem run_sizeOf' {t : TypeId} {n : Nat} (h : sizeT P t = some n) (w : World) : (sizeOf t).run P w = .ok n w := by
  unfold sizeT at h
  cases hi : P.info? t with
  | none => simp [hi] at h
  | some i => simp_all [sizeOf, typeInfo]
theorem add_at (b o j : Nat) : (⟨b, o, none⟩ : Addr).add j = ⟨b, o + j, none⟩ := by unfold Addr.add; split <;> simp_all

theorem run_loadVar' {t : TypeId} {g : Bool} {n : Nat} (hA : isAggT P t = some g) (hs : sizeT P t = some n) (b o : Nat) (vs : List Value) (w : World) (h : ∀ (j : Nat) v, vs[j]? = some v → w.cell? ⟨b, o + j, none⟩ = some v)
    (hl : if g = true then vs.length = n else 0 < vs.length) : (loadVar t ⟨b, o, none⟩).run P w = .ok (if g = true then .agg vs.toArray else vs.getD 0 undef) w := by
  unfold loadVar
  rw [Sem.run_bind, run_isAgg' hA]
  cases g with
  | true =>
    simp only [if_true] at hl ⊢
    subst hl
    simp only [Result.andThen_ok, if_true, Sem.run_bind, run_sizeOf' hs]
    rw [run_loadCells_list (P := P) (w := w) ⟨b, o, none⟩ vs (fun j v hj => by rw [add_at]; exact h j v hj)]
    rfl
  | false =>
    simp only [Bool.false_eq_true, if_false] at hl ⊢
    have := h 0 vs[0] (by simp [hl])
    simp only [Nat.add_zero] at this
    simp [this, hl]

theorem loadAt_sound {K σ h w} (hS : Sim K σ h w) {t : TypeId} {g : Bool} {n : Nat} (hA : isAggT P t = some g) (hs : sizeT P t = some n) {p v : AV} {pv : Value} (hp : Rel K σ p pv) (hv : loadAt h g n p = some v) :
    ∃ V ad, pv = .pointer (some ad) ∧ (loadVar t ad).run P w = .ok V w ∧ Rel K σ v V := by
  have fin : ∀ (b o off : Nat) (cs : List AV) (vs : List Value), RelL K σ cs vs → (∀ (j : Nat) v, vs[j]? = some v → w.cell? ⟨b, o + j, none⟩ = some v) →
      (bif g then (bif Nat.ble (off + n) cs.length then some (.agg ((cs.drop off).take n)) else none) else cs[off]?) = some v →
      ∃ V, (loadVar t ⟨b, o + off, none⟩).run P w = .ok V w ∧ Rel K σ v V := by
    intro b o off cs vs hr hc hv
    cases g with
    | true =>
      simp only [cond_true] at hv
      cases hb : Nat.ble (off + n) cs.length with
      | false => simp [hb] at hv
      | true =>
        simp only [hb, cond_true, Option.some.injEq] at hv
        subst hv
        have hle := Nat.le_of_ble_eq_true hb
        refine ⟨_, run_loadVar' hA hs b (o + off) ((vs.drop off).take n) w (fun j v hj => ?_) (by simp [hr.1]; omega), ?_⟩
        · rw [List.getElem?_take] at hj
          split at hj
          · simp at hj; rw [Nat.add_assoc]; exact hc _ _ hj
          · cases hj
        · simp only [if_true]; exact Rel.aggL.2 (by simpa using (hr.drop off).take n)
    | false =>
      simp only [cond_false] at hv
      have hlt : off < cs.length := (List.getElem?_eq_some_iff.1 hv).1
      have hlt' : off < vs.length := by rw [hr.1]; exact hlt
      refine ⟨_, run_loadVar' hA hs b (o + off) (vs.drop off) w (fun j v hj => ?_) (by simp; omega), ?_⟩
      · simp at hj; rw [Nat.add_assoc]; exact hc _ _ hj
      · simp only [Bool.false_eq_true, if_false]
        exact hr.2 off v _ hv (by simp [hlt'])
  cases hp with
  | ptr hσ =>
    rename_i l i off x
    simp only [loadAt] at hv
    cases hl : h.get l with
    | none => simp [hl] at hv
    | some B =>
      simp only [hl] at hv
      cases hi : B.es[i]? with
      | none => simp [hi] at hv
      | some cs =>
        simp only [hi] at hv
        obtain ⟨vs, hr, _, hc⟩ := hS.elem hl hσ hi
        obtain ⟨V, h1, h2⟩ := fin x.b (x.base + i * x.sz) off cs vs hr hc hv
        exact ⟨V, _, rfl, h1, h2⟩
  | rp f hK hr =>
    rename_i cs off b o
    simp only [loadAt] at hv
    have hrl : RelL K σ cs ((List.range cs.length).map f) := ⟨by simp, fun j a v g1 g2 => by
      have hj : j < cs.length := (List.getElem?_eq_some_iff.1 g1).1
      simp [hj] at g2
      exact g2 ▸ (hr j a g1).mono (KLe.refl _) (fun _ _ h => by cases h)⟩
    obtain ⟨V, h1, h2⟩ := fin b o off cs _ hrl (fun j v hj => by
      have hj' : j < cs.length := by have := (List.getElem?_eq_some_iff.1 hj).1; simpa using this
      simp [hj'] at hj
      exact hj ▸ (hS.kn _ _ _ (hK j hj')).1) hv
    exact ⟨V, _, rfl, h1, h2⟩
  | _ => simp [loadAt] at hv

theorem setMany_length (vs : List AV) : ∀ (off : Nat) (cs : List AV), (setMany off vs cs).length = cs.length := by
  induction vs with
  | nil => intros; rfl
  | cons v vs ih => intro off cs; simp [setMany, ih]
theorem setMany_get (vs : List AV) : ∀ (off : Nat) (cs : List AV) (j : Nat), off + vs.length ≤ cs.length → (setMany off vs cs)[j]? = if off ≤ j ∧ j < off + vs.length then vs[j - off]? else cs[j]? := by
  induction vs with
  | nil => intro off cs j _; simp [setMany]; intro h1 h2; omega
  | cons v vs ih =>
    intro off cs j hle
    simp only [List.length_cons] at hle
    rw [setMany, ih (off + 1) (cs.set off v) j (by simp; omega)]
    by_cases h1 : off + 1 ≤ j ∧ j < off + 1 + vs.length
    · rw [if_pos h1, if_pos (by simp; omega)]
      rw [show j - off = (j - (off + 1)) + 1 by omega, List.getElem?_cons_succ]
    · rw [if_neg h1]
      by_cases h2 : j = off
      · subst h2
        rw [if_pos (by simp), List.getElem?_set_self (by omega), Nat.sub_self]
        rfl
      · rw [if_neg (by simp; omega), List.getElem?_set_ne (Ne.symm h2)]

theorem splice_get (c ws : List Value) (o q : Nat) (h : o + ws.length ≤ c.length) : (c.take o ++ ws ++ c.drop (o + ws.length))[q]? = if o ≤ q ∧ q < o + ws.length then ws[q - o]? else c[q]? := by
  by_cases h1 : q < o
  · rw [if_neg (by omega), List.append_assoc, List.getElem?_append_left (by simp; omega), List.getElem?_take, if_pos h1]
  · by_cases h2 : q < o + ws.length
    · rw [if_pos (by omega), List.getElem?_append_left (by simp; omega), List.getElem?_append_right (by simp; omega)]
      congr 1
      simp
      omega
    · rw [if_neg (by omega), List.getElem?_append_right (by simp; omega), List.getElem?_drop]
      congr 1
      simp
      omega

theorem setRow_size (w : World) (g : Nat) (cs : Array Value) : (w.setRow g cs).heap.size = w.heap.size := by simp [World.setRow]
theorem setRow_other (w : World) (g b : Nat) (cs : Array Value) (h : b ≠ g) : (w.setRow g cs).heap[b]? = w.heap[b]? := by simp [World.setRow, Array.getElem?_modify, Ne.symm h]
theorem setRow_frozen (w : World) (g : Nat) (cs c : Array Value) (t : TypeId) (a : Addr) (h : w.heap[g]? = some (.cells c t (0, 0))) : (w.setRow g cs).frozen? a = w.frozen? a := by
  unfold World.frozen?
  by_cases hb : a.block = g
  · rw [hb, setRow_heap w g c cs t (0, 0) h, h]
  · rw [setRow_other w g a.block cs hb]

theorem storeAt_sound {K σ h w} (hS : Sim K σ h w) {t : TypeId} {n : Nat} (hs : sizeT P t = some n) {p v : AV} {pv V : Value} (hp : Rel K σ p pv) (hv : Rel K σ v V) {h' : Hp} (hst : storeAt h n p v = some h') :
    ∃ w' ad, pv = .pointer (some ad) ∧ (storeVar t ad V).run P w = .ok () w' ∧ Sim K σ h' w' ∧ Ext K σ h w K σ h' w' := by
  unfold storeAt at hst
  cases hc : cellsO v with
  | none => rw [hc] at hst; cases p <;> simp at hst
  | some avs =>
    rw [hc] at hst
    cases hp with
    | ptr hσ =>
      rename_i l i off x
      simp only at hst
      cases hl : h.get l with
      | none => simp [hl] at hst
      | some B =>
        simp only [hl] at hst
        cases hi : B.es[i]? with
        | none => simp [hi] at hst
        | some cs =>
          simp only [hi] at hst
          cases hb1 : Nat.beq avs.length n with
          | false => simp [hb1] at hst
          | true =>
            cases hb2 : Nat.ble (off + n) cs.length with
            | false => simp [hb2] at hst
            | true =>
              simp only [hb1, hb2, Bool.and_true, cond_true, Option.some.injEq] at hst
              subst hst
              obtain ⟨hrv, hone⟩ := hv.cellsO hc
              have hlen : avs.length = n := Nat.eq_of_beq_eq_true hb1
              have hle := Nat.le_of_ble_eq_true hb2
              obtain ⟨y, c, ty, h1, h2, h3, h4, h5, h6, h7, h8⟩ := hS.bk l B hl
              rw [hσ] at h1; cases h1
              have hilt : i < B.es.length := (List.getElem?_eq_some_iff.1 hi).1
              have hcl : cs.length = B.sz := h6 cs (List.mem_of_getElem? hi)
              have hmul : (i + 1) * B.sz ≤ B.es.length * B.sz := Nat.mul_le_mul_right _ hilt
              have hws : V.cells.toList.length = n := by rw [hrv.1]; exact hlen
              have hws' : V.cells.size = n := by simpa using hws
              rw [Nat.add_mul, Nat.one_mul] at hmul
              have hfit : x.base + i * x.sz + off + 0 + V.cells.toList.length ≤ c.size := by rw [h2, hws, h4]; omega
              have hrun := run_storeCells_at (P := P) x.b (x.base + i * x.sz + off) ty V.cells.toList 0 c w h3 hfit (hrv.ones hone)
              refine ⟨w.setRow x.b (c.toList.take (x.base + i * x.sz + off + 0) ++ V.cells.toList ++ c.toList.drop (x.base + i * x.sz + off + 0 + V.cells.toList.length)).toArray, _, rfl, ?_, ?_, ?_⟩
              · unfold storeVar
                rw [Sem.run_bind, run_sizeOf' hs]
                simp only [Result.andThen_ok, hws', ne_eq, not_true_eq_false, if_false]
                exact hrun
              · have hnl : ∀ k C x', h.get k = some C → σ k = some x' → k ≠ l → x'.b ≠ x.b := fun k C x' g1 g2 g3 g4 => g3 (hS.dj k l C B x' x g1 hl g2 hσ g4)
                refine ⟨fun b o u hu => ?_, fun k C hk => ?_, fun k k' C C' y y' g1 g2 g3 g4 g5 => ?_⟩
                · obtain ⟨g1, g2⟩ := hS.kn b o u hu
                  have hbne : b ≠ x.b := fun e => by subst e; rw [h8] at hu; cases hu
                  exact ⟨(cell?_heap (setRow_other w x.b b _ hbne)).trans g1, g2⟩
                · by_cases hkl : k = l
                  · subst hkl
                    rw [Hp.get_set_self _ hl] at hk
                    cases hk
                    refine ⟨x, _, ty, hσ, h2, setRow_heap w x.b c _ ty (0, 0) h3, ?_, by simpa using h5, ?_, fun i' j' e a g1 g2 => ?_, h8⟩
                    · simp only [List.size_toArray, List.length_append, List.length_take, List.length_drop, Array.length_toList] at hfit ⊢
                      omega
                    · intro e he
                      obtain ⟨q, hq⟩ := List.mem_iff_getElem?.1 he
                      simp only at hq
                      rw [List.getElem?_set] at hq
                      by_cases hiq : i = q
                      · subst hiq
                        rw [if_pos rfl, if_pos hilt] at hq
                        cases hq; simp only [setMany_length]; exact hcl
                      · rw [if_neg hiq] at hq; exact h6 e (List.mem_of_getElem? hq)
                    · have hget := splice_get c.toList V.cells.toList (x.base + i * x.sz + off + 0) (x.base + i' * B.sz + j') (by simpa using hfit)
                      simp only [List.getElem?_toArray, hget]
                      simp only at g1
                      rw [List.getElem?_set] at g1
                      by_cases hii : i = i'
                      · subst hii
                        rw [if_pos rfl, if_pos hilt] at g1
                        cases g1
                        rw [setMany_get avs off cs j' (by omega)] at g2
                        by_cases hj : off ≤ j' ∧ j' < off + avs.length
                        · rw [if_pos hj] at g2
                          have hu : (V.cells.toList)[j' - off]? = some (V.cells.toList[j' - off]'(by rw [hws]; omega)) := by simp
                          refine ⟨_, ?_, (hrv.ones hone) _ (List.mem_of_getElem? hu), hrv.2 _ a _ g2 hu⟩
                          rw [if_pos (by rw [hws, h2]; omega), ← hu]
                          congr 1
                          rw [h2]; omega
                        · rw [if_neg hj] at g2
                          obtain ⟨u, e1, e2, e3⟩ := h7 i j' cs a hi g2
                          have hjl : j' < cs.length := (List.getElem?_eq_some_iff.1 g2).1
                          exact ⟨u, by rw [if_neg (by rw [hws, h2]; omega)]; simpa using e1, e2, e3⟩
                      · rw [if_neg hii] at g1
                        obtain ⟨u, e1, e2, e3⟩ := h7 i' j' e a g1 g2
                        have hel := h6 e (List.mem_of_getElem? g1)
                        have hjl : j' < e.length := (List.getElem?_eq_some_iff.1 g2).1
                        refine ⟨u, ?_, e2, e3⟩
                        rw [if_neg]
                        · simpa using e1
                        · rw [hws, h2]
                          rcases Nat.lt_or_ge i' i with hlt | hge
                          · have := Nat.mul_le_mul_right B.sz (show i' + 1 ≤ i by omega)
                            rw [Nat.add_mul, Nat.one_mul] at this
                            omega
                          · have := Nat.mul_le_mul_right B.sz (show i + 1 ≤ i' by omega)
                            rw [Nat.add_mul, Nat.one_mul] at this
                            omega
                  · rw [Hp.get_set_other _ hkl] at hk
                    obtain ⟨y, c', t', g1, g2, g3, g4⟩ := hS.bk k C hk
                    exact ⟨y, c', t', g1, g2, (setRow_other w x.b y.b _ (hnl k C y hk g1 hkl)).trans g3, g4⟩
                · have back : ∀ {k C}, (h.set l ⟨B.sz, B.es.set i (setMany off avs cs)⟩).get k = some C → ∃ C', h.get k = some C' := fun {k C} hk => by
                    by_cases hkl : k = l
                    · subst hkl; exact ⟨B, hl⟩
                    · rw [Hp.get_set_other _ hkl] at hk; exact ⟨C, hk⟩
                  obtain ⟨D, hD⟩ := back g1
                  obtain ⟨D', hD'⟩ := back g2
                  exact hS.dj k k' D D' y y' hD hD' g3 g4 g5
              · refine ⟨KLe.refl _, SLe.refl _, by rw [setRow_size]; exact Nat.le_refl _, fun b hb hn => ?_, fun _ _ _ _ => rfl, fun b hb => ?_, rfl, rfl, rfl, fun a => setRow_frozen w x.b _ c ty a h3⟩
                · exact setRow_other w x.b b _ (fun e => hn ⟨l, B, x, hl, hσ, e.symm⟩)
                · obtain ⟨k, C, y, g1, g2, rfl⟩ := hb
                  right
                  by_cases hkl : k = l
                  · subst hkl; exact ⟨k, B, y, hl, g2, rfl⟩
                  · rw [Hp.get_set_other _ hkl] at g1; exact ⟨k, C, y, g1, g2, rfl⟩
    | _ => simp at hst
end
end Go.Proofs.YtnibcojenlijgaaGreatDoor.Ev
