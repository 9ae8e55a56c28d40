/- What a valid image is: plain facts. No condition. -/
import Derived.Test.YtnibcojenlijgaaGreatDoorSp2
import Derived.Test.YtnibcojenlijgaaGreatDoorFe
set_option linter.unusedVariables false
set_option linter.unusedSimpArgs false
namespace Go.Proofs.YtnibcojenlijgaaGreatDoor.Ev
open Go Go.RowKit
theorem idxFrom_any {α : Type} {p : α → Bool} : ∀ (l : List α) (k : Nat), decide (idxFrom p l k ≥ 0) = l.any p := by
  intro l
  induction l with
  | nil => intro k; simp [idxFrom]
  | cons x l ih =>
    intro k
    have := ih (k + 1)
    rcases Bool.eq_false_or_eq_true (p x) with hp | hp
    · simp [idxFrom, hp]
    · simp only [idxFrom, List.any_cons, hp, Bool.false_or, cond_false]
      rw [← this]
      rfl
theorem within_any (x : Img) (a s r : Int) : within x a s r = x.segs.any fun g => g.has a s r := by
  have := idxFrom_any (p := fun g : Seg => g.has a s r) x.segs 0
  rw [← this]; rfl
theorem isOk_mk {c i : Int} (h : (Flt.mk c i).isOk = true) : c = 0 ∧ i = 0 := by simpa [Flt.isOk] using h
theorem firstE_isNone {c : Nat → Int} : ∀ {m k : Nat}, (∀ p, firstE c m k = some p → p.2 ≠ 0) := by
  intro m
  induction m with
  | zero => intro k p h; cases h
  | succ m ih =>
    intro k p h
    simp only [firstE] at h
    cases hc : (c k != 0) with
    | true => rw [hc] at h; cases h; simpa using hc
    | false => rw [hc] at h; exact ih p h
theorem firstE_zero {c : Nat → Int} : ∀ {m k : Nat}, firstE c m k = none → ∀ j, k ≤ j → j < k + m → c j = 0 := by
  intro m
  induction m with
  | zero => intro k _ j h1 h2; omega
  | succ m ih =>
    intro k h j h1 h2
    simp only [firstE] at h
    cases hc : (c k != 0) with
    | true => rw [hc] at h; cases h
    | false =>
      rw [hc] at h
      by_cases hj : j = k
      · subst hj; simpa using hc
      · exact ih h j (by omega) (by omega)
theorem fltE_ok {f : Nat → Int} {o : Option (Nat × Int)} (hne : ∀ p, o = some p → p.2 ≠ 0) (h : (fltE f o).isOk = true) : o = none := by
  cases o with
  | none => rfl
  | some p => exact absurd (isOk_mk h).1 (hne p rfl)
theorem eachF_ok {n : Nat} {most list : Int} {c : Nat → Int} (h : (eachF n most list c).isOk = true) : (n : Int) ≤ most ∧ ∀ k, k < n → c k = 0 := by
  simp only [eachF] at h
  cases hc : decide ((n : Int) > most) with
  | true => rw [hc] at h; exact absurd (isOk_mk h).1 (by decide)
  | false =>
    rw [hc] at h
    simp only [cond_false] at h
    have := fltE_ok (fun p hp => firstE_isNone p hp) h
    exact ⟨by simpa using hc, fun k hk => firstE_zero this k (Nat.zero_le _) (by omega)⟩
theorem firstBad_ok : ∀ {l : List Flt}, (firstBad l).isOk = true → ∀ f ∈ l, f.isOk = true := by
  intro l
  induction l with
  | nil => intro _ f hf; cases hf
  | cons g l ih =>
    intro h f hf
    simp only [firstBad] at h
    cases hg : g.isOk with
    | false => rw [hg] at h; simp [hg] at h
    | true =>
      rw [hg] at h
      rcases List.mem_cons.1 hf with rfl | hf
      · exact hg
      · exact ih h f hf
theorem valid_ok {x : Img} (h : (validF x).isOk = true) : (headF x).isOk = true ∧ ∀ f ∈ checks x, f.isOk = true := by
  simp only [validF] at h
  cases hh : (headF x).isOk with
  | false => rw [hh] at h; simp [hh] at h
  | true => rw [hh] at h; exact ⟨rfl, firstBad_ok h⟩
theorem valid_needs {x : Img} (h : (validF x).isOk = true) : x.needs.length ≤ 5 := by
  have := (eachF_ok ((valid_ok h).2 (eachF x.needs.length 5 16 (codeAt x.needs fun _ s _ => nameC s)) (by simp [checks]))).1
  omega
/-- A fault with code 0 is none. -/
def Flt.Good (f : Flt) : Prop := f.code = 0 → f.isOk = true
theorem good_ok : Flt.ok.Good := fun _ => rfl
theorem good_mk {c i : Int} (h : c ≠ 0) : (Flt.mk c i).Good := fun h' => absurd h' h
theorem good_if {b : Bool} {f g : Flt} (hf : b = true → f.Good) (hg : b = false → g.Good) : (bif b then f else g).Good := by
  cases b with
  | true => exact hf rfl
  | false => exact hg rfl
theorem good_fltE {f : Nat → Int} {o : Option (Nat × Int)} (hne : ∀ p, o = some p → p.2 ≠ 0) : (fltE f o).Good := by
  cases o with
  | none => exact good_ok
  | some p => exact good_mk (hne p rfl)
theorem good_eachF {n : Nat} {most list : Int} {c : Nat → Int} : (eachF n most list c).Good :=
  good_if (fun _ => good_mk (by decide)) fun _ => good_fltE fun p hp => firstE_isNone p hp
theorem good_segsF : ∀ (l : List Seg) (i e : Int), (segsF l i e).Good := by
  intro l
  induction l with
  | nil => intro i e; exact good_ok
  | cons g l ih => intro i e; exact good_if (fun h => good_mk (by simpa using h)) fun _ => ih _ _
theorem good_segments (l : List Seg) : (segments l).Good := good_if (fun _ => good_mk (by decide)) fun _ => good_segsF _ _ _
theorem good_head (x : Img) : (headF x).Good :=
  good_if (fun _ => good_mk (by decide)) fun _ => good_if (fun _ => good_segments _) fun _ => good_if (fun _ => good_mk (by decide)) fun _ => good_if (fun _ => good_mk (by decide)) fun _ => good_if (fun _ => good_mk (by decide)) fun _ =>
    good_if (fun _ => good_mk (by decide)) fun _ => good_ok
theorem good_recF (l : List Typ) : (recF l).Good := good_if (fun _ => good_mk (by decide)) fun _ => good_fltE fun p hp => firstE_isNone p hp
theorem good_recsF (x : Img) : (recsF x).Good := good_if (fun h => good_mk fun h' => by rw [good_recF _ h'] at h; cases h) fun _ => good_ok
theorem good_firstBad : ∀ (l : List Flt), (∀ f ∈ l, f.Good) → (firstBad l).Good := by
  intro l
  induction l with
  | nil => intro _; exact good_ok
  | cons f l ih => intro h; exact good_if (fun _ => h f (List.mem_cons_self ..)) fun _ => ih fun g hg => h g (List.mem_cons_of_mem _ hg)
theorem valid_good (x : Img) : (validF x).Good := good_if (fun _ => good_head x) fun _ => good_firstBad _ fun f hf => by
  simp only [checks, List.mem_cons, List.not_mem_nil, or_false] at hf
  rcases hf with rfl | rfl | rfl | rfl | rfl | rfl | rfl | rfl | rfl | rfl | rfl | rfl <;> first | exact good_eachF | exact good_recsF x
theorem scFrom_ok {l : List Img} : ∀ {r : List Img} {k : Nat}, (scFrom l r k).isOk = true → ∀ x ∈ r, (validF x).isOk = true := by
  intro r
  induction r with
  | nil => intro k _ x hx; cases hx
  | cons y r ih =>
    intro k h x hx
    simp only [scFrom] at h
    cases hy : (validF y).isOk with
    | false =>
      rw [hy] at h
      simp only [Bool.not_false, cond_true] at h
      obtain ⟨h1, h2⟩ := isOk_mk h
      rw [valid_good y h1] at hy
      cases hy
    | true =>
      rw [hy] at h
      simp only [Bool.not_true, cond_false] at h
      cases hn : decide (namedI (l.take k) y.name ≥ 0) with
      | true => rw [hn] at h; exact absurd (isOk_mk h).1 (by decide)
      | false =>
        rw [hn] at h
        rcases List.mem_cons.1 hx with rfl | hx
        · exact hy
        · exact ih h x hx
/-- A segment of a valid image. -/
structure SegOK (s : Seg) : Prop where
  addr : 0 ≤ s.addr
  size : 1 ≤ s.size
  top : s.addr + s.size ≤ 1048576
theorem segC_ok {s : Seg} {e : Int} (h : segC s e = 0) : SegOK s := by
  simp only [segC] at h
  cases hc : decide (s.addr < 0) || (decide (s.size < 1) || (decide (s.size > 1048576) || (decide (s.addr > w64 (1048576 - s.size)) || (decide (s.rights < 1) || decide (s.rights > 7))))) with
  | true => rw [hc] at h; simp at h
  | false =>
    simp only [Bool.or_eq_false_iff, decide_eq_false_iff_not] at hc
    obtain ⟨h1, h2, h3, h4, _⟩ := hc
    rw [w64_in (by omega) (by omega)] at h4
    exact ⟨by omega, by omega, by omega⟩
theorem segsF_ok : ∀ {l : List Seg} {i e : Int}, (segsF l i e).isOk = true → ∀ s ∈ l, SegOK s := by
  intro l
  induction l with
  | nil => intro i e _ s hs; cases hs
  | cons g l ih =>
    intro i e h s hs
    simp only [segsF] at h
    cases hg : (segC g e != 0) with
    | true => rw [hg] at h; have := (isOk_mk h).1; simp [this] at hg
    | false =>
      rw [hg] at h
      rcases List.mem_cons.1 hs with rfl | hs
      · exact segC_ok (by simpa using hg)
      · exact ih h s hs
theorem head_segs {x : Img} (h : (headF x).isOk = true) : ∀ s ∈ x.segs, SegOK s := by
  simp only [headF] at h
  cases hn : isName x.name with
  | false => rw [hn] at h; exact absurd (isOk_mk h).1 (by decide)
  | true =>
    rw [hn] at h
    simp only [Bool.not_true, cond_false] at h
    cases hs : (segments x.segs).isOk with
    | false => rw [hs] at h; simp [hs] at h
    | true =>
      simp only [segments] at hs
      cases hc : decide ((x.segs.length : Int) > 40) with
      | true => rw [hc] at hs; exact absurd (isOk_mk hs).1 (by decide)
      | false => rw [hc] at hs; exact segsF_ok hs
theorem within_ok {x : Img} (hx : ∀ s ∈ x.segs, SegOK s) {a s r : Int} (h0 : 0 ≤ s) (h : within x a s r = true) : 0 ≤ a ∧ a + s ≤ 1048576 := by
  rw [within_any, List.any_eq_true] at h
  obtain ⟨g, hg, h⟩ := h
  obtain ⟨g1, g2, g3⟩ := hx g hg
  simp only [Seg.has, Bool.and_eq_true, decide_eq_true_eq] at h
  obtain ⟨_, h1, h2, h3⟩ := h
  rw [w64_in (n := g.addr + g.size) (by omega) (by omega), w64_in (by omega) (by omega)] at h3
  omega
theorem plcC_ok {x : Img} (hx : ∀ s ∈ x.segs, SegOK s) {k : Nat} {q p : Plc} (h : plcC x k q p = 0) : 0 ≤ q.addr ∧ 1 ≤ q.size ∧ q.addr + q.size ≤ 1048576 ∧ 0 ≤ q.offset ∧ q.offset ≤ 1000000 ∧ (0 < k → ¬ q.addr < w64 (p.addr + p.size)) := by
  simp only [plcC] at h
  cases h1 : decide (q.module < 0) || (decide (q.sect < 0) || (decide (q.offset < 0) || (decide (q.module > 1000000) || (decide (q.sect > 1000000) || decide (q.offset > 1000000))))) with
  | true => rw [h1] at h; simp at h
  | false =>
    rw [h1] at h
    simp only [Bool.or_eq_false_iff, decide_eq_false_iff_not] at h1
    obtain ⟨_, _, h3, _, _, h4⟩ := h1
    simp only [cond_false] at h
    cases h5 : decide (q.size < 1) || !within x q.addr q.size 0 with
    | true => rw [h5] at h; simp at h
    | false =>
      rw [h5] at h
      simp only [Bool.or_eq_false_iff, decide_eq_false_iff_not, Bool.not_eq_false'] at h5
      obtain ⟨h6, h7⟩ := h5
      obtain ⟨h8, h9⟩ := within_ok hx (by omega) h7
      refine ⟨h8, by omega, h9, by omega, by omega, fun hk => ?_⟩
      intro hlt
      simp only [cond_false] at h
      have e1 : decide ((k : Int) > 0) = true := by simpa using hk
      have e2 : decide (q.addr < w64 (p.addr + p.size)) = true := by simpa using hlt
      rw [e1, e2] at h
      simp at h
theorem valid_places {x : Img} (h : (validF x).isOk = true) : PlOK x.places := by
  obtain ⟨h1, h2⟩ := valid_ok h
  have hx := head_segs h1
  obtain ⟨h3, h4⟩ := eachF_ok (h2 (eachF x.places.length 200 22 (codeAt x.places fun k e p => plcC x k e p)) (by simp [checks]))
  have hc : ∀ k (hk : k < x.places.length), plcC x k x.places[k] (x.places[k - 1]'(by omega)) = 0 := fun k hk => by
    have := h4 k hk
    have h5 : k - 1 < x.places.length := by omega
    simpa only [codeAt, List.getElem?_eq_getElem hk, List.getElem?_eq_getElem h5] using this
  have hstep : ∀ k (hk : k + 1 < x.places.length), x.places[k].addr + x.places[k].size ≤ x.places[k + 1].addr := fun k hk => by
    obtain ⟨_, _, _, _, _, h6⟩ := plcC_ok hx (hc (k + 1) hk)
    obtain ⟨a1, a2, a3, _⟩ := plcC_ok hx (hc k (by omega))
    have := h6 (by omega)
    simp only [Nat.add_sub_cancel] at this
    rw [w64_in (by omega) (by omega)] at this
    omega
  refine ⟨by omega, fun j hj => ?_, fun i j hi hj hij => ?_⟩
  · obtain ⟨a1, a2, a3, a4, a5, _⟩ := plcC_ok hx (hc j hj)
    exact ⟨a1, a2, a3, a4, a5⟩
  · have main : ∀ d (hd : i + d + 1 < x.places.length), x.places[i].addr + x.places[i].size ≤ x.places[i + d + 1].addr := by
      intro d
      induction d with
      | zero => intro hd; exact hstep i hd
      | succ d ih =>
        intro hd
        have h7 := ih (by omega)
        have h8 := hstep (i + d + 1) hd
        obtain ⟨_, a2, _⟩ := plcC_ok hx (hc (i + d + 1) (by omega))
        show x.places[i].addr + x.places[i].size ≤ (x.places[i + d + 1 + 1]'(by omega)).addr
        omega
    have := main (j - i - 1) (by omega)
    have e : i + (j - i - 1) + 1 = j := by omega
    simpa only [e] using this
end Go.Proofs.YtnibcojenlijgaaGreatDoor.Ev
