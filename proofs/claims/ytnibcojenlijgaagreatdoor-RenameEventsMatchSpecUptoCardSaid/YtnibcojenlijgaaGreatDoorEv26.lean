/- What an argument reads as, and the evaluator's value for it. No condition. -/
import Derived.Test.YtnibcojenlijgaaGreatDoorEv23
import Derived.DataReads
set_option linter.unusedVariables false
set_option linter.unusedSimpArgs false
namespace Go.Proofs.YtnibcojenlijgaaGreatDoor.Ev
open Go Go.RowKit

/-- The cells of a datum of a type. -/
def avT (P : Program) {H : Type} : Nat → TypeId → DataW H → List AV
  | 0, _, _ => []
  | n + 1, t, d => match P.underlying t, d with
    | some .bool, .lit (.bool b) => [.bool b]
    | some (.int _), .lit (.int k v) => [.int k v]
    | some .string, .lit (.string bs) => [.str ⟨bs.toArray⟩]
    | some (.slice _), .nil => [.rs []]
    | some (.slice e), .slice es _ => [.rs (es.map (avT P n e))]
    | some (.struct fs), .agg ds => (fs.toList.zip ds).flatMap fun p => avT P n p.1.type p.2
    | _, _ => []
def offsOK (P : Program) : List Field → Nat → Nat → Bool
  | [], o, tot => Nat.beq o tot
  | f :: fs, o, tot => Nat.beq f.offset o && offsOK P fs (o + P.cellsOf f.type) tot
def okT (P : Program) : Nat → TypeId → Bool
  | 0, _ => false
  | n + 1, t => match P.underlying t with
    | some .bool | some (.int _) | some .string => true
    | some (.slice e) => !Nat.beq (P.cellsOf e) 0 && okT P n e
    | some (.struct fs) => offsOK P fs.toList 0 (P.cellsOf t) && fs.toList.all fun f => okT P n f.type
    | _ => false

theorem snap_mk {w : World} {b o : Nat} {v : Value} (h : w.cell? ⟨b, o, none⟩ = some v) (h1 : v.oneCell' = true) : snap w b o = some v := by
  simp [snap, h, h1]
theorem spot_none {w : World} {a : Addr} {v : Value} (h : w.cell? a = some v) : a.spot = none := by
  unfold World.cell? at h
  split at h
  · split at h
    · cases h
    · rename_i hs; simpa using hs
  · cases h

theorem fields_rel {P : Program} {H : Type} {enc : TypeId × Value → H} {w : World} {base : Nat} {spare : Nat → Bool} {held : Bool} {n m : Nat}
    (ih : ∀ (t : TypeId), okT P n t = true → ∀ (cs : List Value) (d : DataW H) (ps : List MemPlace), DataW.trod enc P w base spare held m t cs = some (d, ps) → RelL (snap w) noSg (avT P n t d) cs ∧ ∀ v ∈ cs, v.oneCell' = true) (cs : List Value) :
    ∀ (fs : List Field) (o : Nat) (xs : List (DataW H × List MemPlace)), offsOK P fs o cs.length = true → (∀ f ∈ fs, okT P n f.type = true) → o ≤ cs.length →
      fs.mapM (fun f => DataW.trod enc P w base spare held m f.type ((cs.drop f.offset).take (P.cellsOf f.type))) = some xs →
      RelL (snap w) noSg ((fs.zip (xs.map (·.1))).flatMap fun p => avT P n p.1.type p.2) (cs.drop o) ∧ ∀ v ∈ cs.drop o, v.oneCell' = true := by
  intro fs
  induction fs with
  | nil =>
    intro o xs ho _ _ hm
    simp only [offsOK] at ho
    have := Nat.eq_of_beq_eq_true ho
    rw [List.drop_of_length_le (by omega)]
    exact ⟨.nil, fun v h => by cases h⟩
  | cons f fs ihf =>
    intro o xs ho hok hle hm
    simp only [offsOK, Bool.and_eq_true] at ho
    have hoff := Nat.eq_of_beq_eq_true ho.1
    simp only [List.mapM_cons, Option.bind_eq_bind, Option.bind_eq_some_iff, Option.pure_def, Option.some.injEq] at hm
    obtain ⟨x, hx, ys, hys, rfl⟩ := hm
    obtain ⟨d, q⟩ := x
    have offs_le : ∀ (gs : List Field) (o tot : Nat), offsOK P gs o tot = true → o ≤ tot := by
      intro gs
      induction gs with
      | nil => intro o tot h; have := Nat.eq_of_beq_eq_true (show Nat.beq o tot = true from h); omega
      | cons g gs ihg => intro o tot h; simp only [offsOK, Bool.and_eq_true] at h; have := ihg _ _ h.2; omega
    have hle2 := offs_le _ _ _ ho.2
    obtain ⟨a1, a2⟩ := ih f.type (hok f (List.mem_cons_self ..)) _ _ _ hx
    obtain ⟨b1, b2⟩ := ihf (o + P.cellsOf f.type) ys ho.2 (fun g hg => hok g (List.mem_cons_of_mem _ hg)) hle2 hys
    have hsplit : cs.drop o = (cs.drop o).take (P.cellsOf f.type) ++ cs.drop (o + P.cellsOf f.type) := by
      rw [← List.drop_drop, List.take_append_drop]
    rw [hoff] at a1 a2
    rw [hsplit]
    refine ⟨?_, fun v hv => ?_⟩
    · simp only [List.map_cons, List.zip_cons_cons, List.flatMap_cons]
      exact a1.append b1
    · rcases List.mem_append.1 hv with h | h
      · exact a2 v h
      · exact b2 v h

theorem trod_rel {P : Program} {H : Type} {enc : TypeId × Value → H} {w : World} {base : Nat} {spare : Nat → Bool} {held : Bool} : ∀ (n : Nat) (t : TypeId), okT P n t = true → ∀ (m : Nat) (cs : List Value) (d : DataW H) (ps : List MemPlace),
    DataW.trod enc P w base spare held m t cs = some (d, ps) → RelL (snap w) noSg (avT P n t d) cs ∧ ∀ v ∈ cs, v.oneCell' = true := by
  intro n
  induction n with
  | zero => intro t h; cases h
  | succ n ih =>
    intro t hok m cs d ps htr
    cases m with
    | zero => simp [DataW.trod] at htr
    | succ m =>
      simp only [okT] at hok
      unfold DataW.trod at htr
      cases hu : P.underlying t with
      | none => rw [hu] at hok; cases hok
      | some u =>
        rw [hu] at hok
        cases u <;> simp only at hok <;> try (cases hok; done)
        case bool =>
          simp only [hu] at htr
          split at htr <;> rename_i he <;> try (cases he; done)
          all_goals try (simp at he; done)
          all_goals try (cases htr; done)
          · cases htr
            simp only [avT, hu]
            exact ⟨.cons .bool .nil, fun v hv => by simp at hv; subst hv; rfl⟩
        case int k =>
          simp only [hu] at htr
          split at htr <;> rename_i he <;> try (cases he; done)
          all_goals try (simp at he; done)
          all_goals try (cases htr; done)
          · cases he
            split at htr
            · rename_i hk
              obtain ⟨rfl, _⟩ := hk
              cases htr
              simp only [avT, hu]
              exact ⟨.cons .int .nil, fun v hv => by simp at hv; subst hv; rfl⟩
            · cases htr
        case string =>
          simp only [hu] at htr
          split at htr <;> rename_i he <;> try (cases he; done)
          all_goals try (simp at he; done)
          all_goals try (cases htr; done)
          · split at htr
            · cases htr
              simp only [avT, hu]
              exact ⟨.cons .str .nil, fun v hv => by simp at hv; subst hv; rfl⟩
            · cases htr
        case slice e =>
          simp only [hu] at htr
          split at htr <;> rename_i he <;> try (cases he; done)
          all_goals try (simp at he; done)
          all_goals try (cases htr; done)
          · cases htr
            simp only [avT, hu]
            exact ⟨.cons .rs0 .nil, fun v hv => by simp at hv; subst hv; rfl⟩
          · cases he
            rename_i a len cap
            split at htr
            · rename_i hb
              simp only [Option.bind_eq_some_iff, Option.map_eq_some_iff] at htr
              obtain ⟨elems, hel, rest, hrest, heq⟩ := htr
              simp only [Prod.mk.injEq] at heq
              obtain ⟨rfl, _⟩ := heq
              simp only [avT, hu]
              have hlen : elems.length = len := by have := mapM_some_length hel; rw [List.length_range] at this; exact this
              have hget : ∀ i (hi : i < elems.length), ∃ ci, w.cells? base (a.add (i * P.cellsOf e)) (P.cellsOf e) = some ci ∧ DataW.trod enc P w base spare held m e ci = some elems[i] := fun i hi => by
                have := mapM_some_get hel i i (List.getElem?_range (by omega))
                rw [List.getElem?_eq_getElem hi] at this
                obtain ⟨ci, h1, h2⟩ := Option.bind_eq_some_iff.1 this
                exact ⟨ci, h1, h2⟩
              refine ⟨.cons ?_ .nil, fun v hv => by simp at hv; subst hv; rfl⟩
              cases elems with
              | nil => subst hlen; exact .rs0
              | cons x0 xs =>
                rw [Bool.and_eq_true] at hok
                have hz : P.cellsOf e ≠ 0 := fun h => by rw [h] at hok; exact absurd hok.1 (by simp)
                have hsp : a.spot = none := by
                  obtain ⟨ci, h1, _⟩ := hget 0 (by simp)
                  obtain ⟨_, hl, hc⟩ := World.cells?_some h1
                  have := hc 0 (by omega)
                  rw [List.getElem?_eq_getElem (by omega)] at this
                  refine spot_none (w := w) (v := ci[0]) ?_
                  simpa [Addr.add] using this
                have hadd : ∀ (i j : Nat), (a.add (i * P.cellsOf e)).add j = ⟨a.block, a.off + i * P.cellsOf e + j, none⟩ := fun i j => by
                  obtain ⟨ab, ao, as'⟩ := a
                  simp only at hsp
                  subst hsp
                  simp only [Addr.add]
                  split <;> split <;> simp_all <;> omega
                have hcell : ∀ i (hi : i < (x0 :: xs).length) j, j < P.cellsOf e → ∃ v, w.cell? ⟨a.block, a.off + i * P.cellsOf e + j, none⟩ = some v ∧ v.oneCell' = true ∧ (avT P n e (x0 :: xs)[i].1).length = P.cellsOf e ∧ ∀ u, (avT P n e (x0 :: xs)[i].1)[j]? = some u → Rel (snap w) (fun _ => none) u v := fun i hi j hj => by
                  obtain ⟨ci, h1, h2⟩ := hget i hi
                  obtain ⟨_, hl, hc⟩ := World.cells?_some h1
                  obtain ⟨r1, r2⟩ := ih e hok.2 m ci _ _ h2
                  have h3 := hc j hj
                  rw [hadd, List.getElem?_eq_getElem (by omega)] at h3
                  refine ⟨_, h3, r2 _ (List.getElem_mem _), by have h5 := r1.1; rw [hl] at h5; exact h5.symm, fun u hu' => r1.2 j u _ hu' (List.getElem?_eq_getElem (by omega))⟩
                have hval : Value.slice (some a) len cap = Value.slice (some ⟨a.block, a.off, none⟩) ((((x0 :: xs).map (·.1)).map (avT P n e)).length) cap := by
                  obtain ⟨ab, ao, as'⟩ := a
                  simp only at hsp
                  subst hsp hlen
                  simp
                rw [hval]
                refine .rs (sz := P.cellsOf e) (fun i j => (w.cell? ⟨a.block, a.off + i * P.cellsOf e + j, none⟩).getD undef) (by simp) (by simp only [List.length_map]; omega) (fun q hq => ?_) (fun i j hi hj => ?_) (fun i j q u hq hu' => ?_)
                · obtain ⟨d, hd, rfl⟩ := List.mem_map.1 hq
                  obtain ⟨y, hy, rfl⟩ := List.mem_map.1 hd
                  obtain ⟨i, hi, rfl⟩ := List.getElem_of_mem hy
                  obtain ⟨_, _, _, hl, _⟩ := hcell i hi 0 (by omega)
                  exact hl
                · obtain ⟨v, h1, h2, _⟩ := hcell i (by simpa using hi) j hj
                  rw [h1]
                  exact snap_mk h1 h2
                · have hi : i < (x0 :: xs).length := by
                    have := (List.getElem?_eq_some_iff.1 hq).1
                    simpa using this
                  have hqe : q = avT P n e (x0 :: xs)[i].1 := by
                    rw [List.getElem?_map, List.getElem?_map, List.getElem?_eq_getElem hi] at hq
                    simpa using hq.symm
                  subst hqe
                  have hjl := (List.getElem?_eq_some_iff.1 hu').1
                  obtain ⟨_, _, _, hl, _⟩ := hcell i hi 0 (by omega)
                  obtain ⟨v, h1, h2, _, h4⟩ := hcell i hi j (by omega)
                  rw [h1]
                  exact h4 u hu'
            · cases htr
        case struct fs =>
          rw [Bool.and_eq_true] at hok
          simp only [hu] at htr
          split at htr
          · rename_i hl
            simp only [Option.map_eq_some_iff] at htr
            obtain ⟨xs, hxs, heq⟩ := htr
            simp only [Prod.mk.injEq] at heq
            obtain ⟨rfl, _⟩ := heq
            simp only [avT, hu]
            have := fields_rel (fun t ht cs d ps h => ih t ht m cs d ps h) cs fs.toList 0 xs (by rw [hl]; exact hok.1) (fun f hf => List.all_eq_true.1 hok.2 f hf) (Nat.zero_le _) hxs
            simpa using this
          · cases htr
end Go.Proofs.YtnibcojenlijgaaGreatDoor.Ev
