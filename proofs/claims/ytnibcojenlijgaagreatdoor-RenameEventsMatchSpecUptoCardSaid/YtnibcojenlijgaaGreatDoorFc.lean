/- The heads of images and type records at the evaluator. No condition. -/
import Derived.Test.YtnibcojenlijgaaGreatDoorFb
set_option linter.unusedVariables false
set_option linter.unusedSimpArgs false
namespace Go.Proofs.YtnibcojenlijgaaGreatDoor.Ev
open Go Go.RowKit
set_option maxRecDepth 10000
theorem seg1_rt (c i : Int) : Rt T 109 [.int .i64 c, .rp [.int .i64 i] 0] (Flt.enc ⟨c, w64 (100 + i)⟩) := by
  refine Rt.wp rfl rfl ?_
  repeat' ((conv => whnf); first | refine Br.T ?_ | refine Br.F ?_ | refine And.intro rfl ?_ | refine eq_bool ?_ | refine eq_int ?_ | refine Br.N ?_ | refine Br.kt (by assumption) ?_ | refine Br.kf (by assumption) ?_ | refine Br.mk (fun h => ?_) (fun h => ?_) | refine eq_some ?_)
  all_goals rfl
/-- The block of a fault that is returned. -/
abbrev fblk : List (Nat × Blk) := [(0, ⟨2, [[.int .i64 0, .int .i64 0]]⟩)]
theorem ne_of_beq {a b : Int} (h : a ≠ b) : (a != b) = true := by simpa using h
theorem segments_rt (l : List Seg) (hl : l.length ≤ maxLen) : Rt T 98 [.rs (l.map Seg.enc)] (segments l).enc := by
  refine Rt.wp rfl rfl ?_
  refine Br.mk (fun h => ?_) (fun h => ?_)
  · refine eq_some ?_
    simp only [List.length_map] at h
    simp only [segments, h]; rfl
  · have h0 : segments l = segsF l 0 0 := by simp only [List.length_map] at h; simp only [segments, h]; rfl
    refine LoopP.by (α := Nat × Int) (fun x => l.length - x.1) (fun x => x.1 ≤ l.length ∧ segments l = segsF (l.drop x.1) x.1 x.2) (fun x => [.int .i64 x.2, .int .i64 x.1]) (fun x => fblk) (0, 0) ⟨Nat.zero_le _, h0⟩ rfl (fun x hk => ?_)
    obtain ⟨k, e⟩ := x
    obtain ⟨h1, h2⟩ := hk
    simp only at h1 h2 ⊢
    refine Br.mk (fun h => ?_) (fun h => ?_)
    · have hlt : k < l.length := by simp at h; omega
      rw [List.drop_eq_getElem_cons hlt] at h2
      have fin : ∀ c, segC l[k] e = c → (c != 0) = true → segments l = ⟨c, w64 (100 + k)⟩ := fun c hc h0 => by rw [h2]; simp only [segsF, hc, h0]; rfl
      have nxt : segC l[k] e = 0 → ∃ y : Nat × Int, l.length - y.1 < l.length - k ∧ (y.1 ≤ l.length ∧ segments l = segsF (l.drop y.1) y.1 y.2) ∧
          (([AV.int .i64 (upI (IntKind.wrap .i64 (l[k].addr + l[k].size)) 256), AV.int .i64 (IntKind.wrap .i64 (k + 1))], fblk) : List AV × List (Nat × Blk)) = ([.int .i64 y.2, .int .i64 y.1], fblk) := fun hc =>
        ⟨(k + 1, upI (w64 (l[k].addr + l[k].size)) 256), by simp only; omega, ⟨by simp only; omega, by rw [h2]; simp only [segsF, hc]; rfl⟩, by rw [wrap_nat (show k < 9223372036854775807 by unfold maxLen at hl; omega)]⟩
      clear h2 h1 h h0
      repeat' ((conv => whnf); first | refine Br.T ?_ | refine Br.F ?_ | refine And.intro rfl ?_ | refine eq_bool ?_ | refine eq_int ?_ | refine SomeP.mk' (idx_map hlt fun _ => rfl) ?_ | refine CallP.mk' (seg1_rt _ _) ?_ | refine CallP.mk' (up_rt _) ?_ | refine Br.N ?_ | refine Br.kt (by assumption) ?_ | refine Br.kf (by assumption) ?_ | refine Br.mk (fun h => ?_) (fun h => ?_) | refine eq_some ?_)
      all_goals first
        | exact nxt (by (try simp only [List.length_map, Bool.and_true] at *); first | (simp only [bne, segC, *, decide_true, decide_false, Bool.true_or, Bool.false_or, Bool.or_true, Bool.or_false, Bool.true_and, Bool.false_and, Bool.and_true, Bool.and_false, Bool.not_true, Bool.not_false, cond_true, cond_false] <;> rfl) | (exfalso; simp_all; done) | (simp only [bne, segC]; simp_all only [decide_true, decide_false, Bool.true_or, Bool.false_or, Bool.or_true, Bool.or_false, Bool.true_and, Bool.false_and, Bool.and_true, Bool.and_false, Bool.not_true, Bool.not_false, cond_true, cond_false]; done))
        | exact (congrArg Flt.enc (fin 3 (by (try simp only [List.length_map, Bool.and_true] at *); first | (simp only [bne, segC, *, decide_true, decide_false, Bool.true_or, Bool.false_or, Bool.or_true, Bool.or_false, Bool.true_and, Bool.false_and, Bool.and_true, Bool.and_false, Bool.not_true, Bool.not_false, cond_true, cond_false] <;> rfl) | (exfalso; simp_all; done) | (simp only [bne, segC]; simp_all only [decide_true, decide_false, Bool.true_or, Bool.false_or, Bool.or_true, Bool.or_false, Bool.true_and, Bool.false_and, Bool.and_true, Bool.and_false, Bool.not_true, Bool.not_false, cond_true, cond_false]; done)) rfl)).symm
        | exact (congrArg Flt.enc (fin 5 (by (try simp only [List.length_map, Bool.and_true] at *); first | (simp only [bne, segC, *, decide_true, decide_false, Bool.true_or, Bool.false_or, Bool.or_true, Bool.or_false, Bool.true_and, Bool.false_and, Bool.and_true, Bool.and_false, Bool.not_true, Bool.not_false, cond_true, cond_false] <;> rfl) | (exfalso; simp_all; done) | (simp only [bne, segC]; simp_all only [decide_true, decide_false, Bool.true_or, Bool.false_or, Bool.or_true, Bool.or_false, Bool.true_and, Bool.false_and, Bool.and_true, Bool.and_false, Bool.not_true, Bool.not_false, cond_true, cond_false]; done)) rfl)).symm
        | exact (congrArg Flt.enc (fin 9 (by (try simp only [List.length_map, Bool.and_true] at *); first | (simp only [bne, segC, *, decide_true, decide_false, Bool.true_or, Bool.false_or, Bool.or_true, Bool.or_false, Bool.true_and, Bool.false_and, Bool.and_true, Bool.and_false, Bool.not_true, Bool.not_false, cond_true, cond_false] <;> rfl) | (exfalso; simp_all; done) | (simp only [bne, segC]; simp_all only [decide_true, decide_false, Bool.true_or, Bool.false_or, Bool.or_true, Bool.or_false, Bool.true_and, Bool.false_and, Bool.and_true, Bool.and_false, Bool.not_true, Bool.not_false, cond_true, cond_false]; done)) rfl)).symm
        | exact (congrArg Flt.enc (fin 13 (by (try simp only [List.length_map, Bool.and_true] at *); first | (simp only [bne, segC, *, decide_true, decide_false, Bool.true_or, Bool.false_or, Bool.or_true, Bool.or_false, Bool.true_and, Bool.false_and, Bool.and_true, Bool.and_false, Bool.not_true, Bool.not_false, cond_true, cond_false] <;> rfl) | (exfalso; simp_all; done) | (simp only [bne, segC]; simp_all only [decide_true, decide_false, Bool.true_or, Bool.false_or, Bool.or_true, Bool.or_false, Bool.true_and, Bool.false_and, Bool.and_true, Bool.and_false, Bool.not_true, Bool.not_false, cond_true, cond_false]; done)) rfl)).symm
    · have hge : l.length ≤ k := by simp at h; omega
      refine eq_some ?_
      rw [h2, List.drop_of_length_le hge]; rfl
theorem isOk_eq {f : Flt} (h : f.isOk = true) : f = .ok := by
  obtain ⟨a, b⟩ := f
  simp [Flt.isOk] at h
  simp [h, Flt.ok]
theorem isOk_ok : Flt.ok.isOk = true := rfl
theorem head_rt (x : Img) (ok : x.ok) : Rt T 48 [.agg x.enc] (headF x).enc := by
  refine Rt.wp rfl rfl ?_
  repeat' ((conv => whnf); first | refine Br.T ?_ | refine Br.F ?_ | refine And.intro rfl ?_ | refine eq_bool ?_ | refine eq_int ?_ | refine CallP.mk' (isName_rt _ ok.name) ?_ | refine CallP.mk' (segments_rt _ ok.segs) ?_ | refine CallP.mk' (within_rt x ok.segs _ _ _) ?_ | refine Br.N ?_ | refine Br.kt (by assumption) ?_ | refine Br.kf (by assumption) ?_ | refine Br.mk (fun h => ?_) (fun h => ?_) | refine eq_some ?_)
  all_goals (have hh : ∀ f : Flt, f.isOk = ((f.code == 0) && (f.index == 0)) := fun _ => rfl)
  all_goals ((try simp only [List.length_map, Bool.and_true] at *); first | (simp only [bne, headF, hh, Flt.ok, *, decide_true, decide_false, Bool.true_or, Bool.false_or, Bool.or_true, Bool.or_false, Bool.true_and, Bool.false_and, Bool.and_true, Bool.and_false, Bool.not_true, Bool.not_false, cond_true, cond_false] <;> rfl) | (exfalso; simp_all; done) | (simp only [bne, headF, hh, Flt.ok]; simp_all only [decide_true, decide_false, Bool.true_or, Bool.false_or, Bool.or_true, Bool.or_false, Bool.true_and, Bool.false_and, Bool.and_true, Bool.and_false, Bool.not_true, Bool.not_false, cond_true, cond_false]; done))
theorem fld1_rt (y x : Fld) : Rt T 120 [.agg y.enc, .rp x.enc 0] (.bool (y.name.toList == x.name.toList)) := by
  refine Rt.wp rfl rfl ?_
  repeat' ((conv => whnf); first | refine Br.T ?_ | refine Br.F ?_ | refine And.intro rfl ?_ | refine eq_bool ?_ | refine eq_int ?_ | refine Br.N ?_ | refine Br.kt (by assumption) ?_ | refine Br.kf (by assumption) ?_ | refine Br.mk (fun h => ?_) (fun h => ?_) | refine eq_some ?_)
  all_goals rfl
theorem idxFld_rt (l : List Fld) (x : Fld) (hl : l.length ≤ maxLen) : Rt T 121 [.rs (l.map Fld.enc), .fn 120 [] [.rp x.enc 0]] (.int .i64 (idxFrom (fun y : Fld => y.name.toList == x.name.toList) l 0)) := by
  refine Rt.wp rfl rfl ?_
  refine LoopP.by (α := Nat) (fun k => l.length - k) (fun k => k ≤ l.length ∧ idxFrom (fun y : Fld => y.name.toList == x.name.toList) l 0 = idxFrom (fun y : Fld => y.name.toList == x.name.toList) (l.drop k) k) (fun k => [.int .i64 k]) (fun k => []) 0 ⟨Nat.zero_le _, rfl⟩ rfl (fun k hk => ?_)
  obtain ⟨h1, h2⟩ := hk
  refine Br.mk (fun h => ?_) (fun h => ?_)
  · have hlt : k < l.length := by simp at h; omega
    rw [idxFrom_drop hlt] at h2
    refine SomeP.mk' (idx_map hlt fun _ => rfl) ?_
    refine CallP.mk' (fld1_rt l[k] x) ?_
    refine Br.mk (fun h => ?_) (fun h => ?_)
    · exact eq_int (by rw [h2, h]; rfl)
    · refine ⟨k + 1, by omega, ⟨by omega, by rw [h2, h]; rfl⟩, ?_⟩
      rw [← wrap_nat (show k < 9223372036854775807 by unfold maxLen at hl; omega)]; rfl
  · exact eq_int (by
      have : l.length ≤ k := by simp at h; omega
      rw [h2, List.drop_of_length_le this]; rfl)
theorem hasFld_rt (l : List Fld) (x : Fld) (hl : l.length ≤ maxLen) : Rt T 119 [.rs (l.map Fld.enc), .fn 120 [] [.rp x.enc 0]] (.bool (decide (idxFrom (fun y : Fld => y.name.toList == x.name.toList) l 0 ≥ 0))) := by
  refine Rt.wp rfl rfl ?_
  repeat' ((conv => whnf); first | refine Br.T ?_ | refine Br.F ?_ | refine And.intro rfl ?_ | refine eq_bool ?_ | refine eq_int ?_ | refine CallP.mk' (idxFld_rt l x hl) ?_ | refine Br.N ?_ | refine Br.kt (by assumption) ?_ | refine Br.kf (by assumption) ?_ | refine Br.mk (fun h => ?_) (fun h => ?_) | refine eq_some ?_)
  all_goals rfl
theorem slice_take {α : Type} {enc : α → List AV} {l : List α} {k sz : Nat} (hk : k ≤ l.length) (hl : ∀ x, (enc x).length = sz) : sliceA sz (.rs (l.map enc)) 0 (k : Int) = some (.rs ((l.take k).map enc)) := by
  simp only [sliceA]
  rw [if_pos ⟨by omega, by omega⟩, if_pos ⟨by simp; omega, fun e he => by obtain ⟨y, _, rfl⟩ := List.mem_map.1 he; exact hl y⟩]
  simp [List.map_take]
theorem idx_typ {l : List Typ} {n : Int} (h0 : 0 ≤ n) (h1 : n < l.length) : idxAddr 6 (.rs (l.map Typ.enc)) n = some (.rp (typAt l n).enc 0) := by
  have h2 : n.toNat < l.length := by omega
  have := idx_map (enc := Typ.enc) (sz := 6) h2 fun _ => rfl
  rw [Int.toNat_of_nonneg h0] at this
  rw [this]
  simp [typAt, h2]
theorem idx_typ2 {l : List Typ} {n : Int} {i : Nat} (h0 : decide (n < 0) = false) (h1 : decide (n ≥ (i : Int)) = false) (hi : i < l.length) : idxAddr 6 (.rs (l.map Typ.enc)) n = some (.rp (typAt l n).enc 0) :=
  have h2 : n < (i : Int) := by simpa using h1
  idx_typ (by simpa using h0) (Int.lt_trans h2 (Int.ofNat_lt.2 hi))
theorem idx_typP {l : List Typ} {n : Int} {k : Nat} (hp : 0 < k → 0 ≤ n ∧ n < l.length) (h : decide ((k : Int) > 0) = true) : idxAddr 6 (.rs (l.map Typ.enc)) n = some (.rp (typAt l n).enc 0) :=
  idx_typ (hp (by simpa using h)).1 (hp (by simpa using h)).2
set_option maxHeartbeats 4000000 in
theorem fldC_rt (l : List Typ) (i : Nat) (hi : i < l.length) (hl : l.length ≤ maxLen) (k : Nat) (hk : k < l[i].fields.length) (hfl : l[i].fields.length ≤ maxLen) (hn : ∀ f ∈ l[i].fields, f.name.size ≤ maxLen)
    (hp : 0 < k → 0 ≤ l[i].fields[k - 1].type ∧ l[i].fields[k - 1].type < l.length) : Rt T 115 [.rs (l.map Typ.enc), .int .i64 i, .int .i64 k] (.int .i64 (fldC l i l[i] k l[i].fields[k] l[i].fields[k - 1])) := by
  have hx := hn _ (List.getElem_mem hk)
  have htk : (l[i].fields.take k).length ≤ maxLen := by rw [List.length_take]; omega
  refine Rt.wp rfl rfl ?_
  repeat' ((conv => whnf); first | refine Br.T ?_ | refine Br.F ?_ | refine And.intro rfl ?_ | refine eq_bool ?_ | refine eq_int ?_ | refine SomeP.mk' (idx_map hi fun _ => rfl) ?_ | refine SomeP.mk' (idx_map hk fun _ => rfl) ?_ | refine SomeP.mk' (idx_pred (by assumption) hk hfl fun _ => rfl) ?_ | refine SomeP.mk' (idx_typP hp (by assumption)) ?_ | refine SomeP.mk' (idx_typ2 (by assumption) (by assumption) hi) ?_ | refine SomeP.mk' (slice_take (Nat.le_of_lt hk) fun _ => rfl) ?_ | refine CallP.mk' (isTok_rt _ hx) ?_ | refine CallP.mk' (hasFld_rt _ _ htk) ?_ | refine Br.N ?_ | refine Br.kt (by assumption) ?_ | refine Br.kf (by assumption) ?_ | refine Br.mk (fun h => ?_) (fun h => ?_) | refine eq_some ?_)
  all_goals (clear hp hn)
  all_goals ((try simp only [List.length_map, Bool.and_true] at *); first | (simp only [bne, fldC, fldEnd, *, decide_true, decide_false, Bool.true_or, Bool.false_or, Bool.or_true, Bool.or_false, Bool.true_and, Bool.false_and, Bool.and_true, Bool.and_false, Bool.not_true, Bool.not_false, cond_true, cond_false] <;> rfl) | (exfalso; simp_all; done) | (simp only [bne, fldC, fldEnd]; simp_all only [decide_true, decide_false, Bool.true_or, Bool.false_or, Bool.or_true, Bool.or_false, Bool.true_and, Bool.false_and, Bool.and_true, Bool.and_false, Bool.not_true, Bool.not_false, cond_true, cond_false]; done))
theorem fldC_type {l : List Typ} {i : Nat} {t : Typ} {k : Nat} {x p : Fld} (hi : i < l.length) (h : fldC l i t k x p = 0) : 0 ≤ x.type ∧ x.type < l.length := by
  simp only [fldC] at h
  cases h1 : (!isTok x.name)
  · rw [h1] at h
    simp only [cond_false] at h
    cases h2 : decide (idxFrom (fun y : Fld => y.name.toList == x.name.toList) (t.fields.take k) 0 ≥ 0)
    · rw [h2] at h
      simp only [cond_false] at h
      cases h3 : (decide (x.type < 0) || decide (x.type ≥ (i : Int)))
      · simp at h3
        omega
      · rw [h3] at h; simp at h
    · rw [h2] at h; simp at h
  · rw [h1] at h; simp at h
theorem codeAt_eq {α : Type} {l : List α} {f : Nat → α → α → Int} {k : Nat} (hk : k < l.length) : codeAt l f k = f k l[k] l[k - 1] := by
  have h1 : k - 1 < l.length := by omega
  simp only [codeAt, List.getElem?_eq_getElem hk, List.getElem?_eq_getElem h1]
theorem firstE_none {c : Nat → Int} : ∀ {m k : Nat}, firstE c m k = none → ∀ j, k ≤ j → j < k + m → c j = 0 := by
  intro m
  induction m with
  | zero => intro k _ j h1 h2; omega
  | succ m ih =>
    intro k h j h1 h2
    simp only [firstE] at h
    cases hc : (c k != 0) with
    | true => rw [hc] at h; cases h
    | false =>
      rw [hc] at h
      by_cases hj : j = k
      · subst hj; simpa using hc
      · exact ih h j (by omega) (by omega)
theorem firstE_step {c : Nat → Int} {n k : Nat} (hk : k < n) : firstE c (n - k) k = bif c k != 0 then some (k, c k) else firstE c (n - (k + 1)) (k + 1) := by
  rw [show n - k = (n - (k + 1)) + 1 by omega]; rfl
set_option maxHeartbeats 4000000 in
theorem typC_lo (l : List Typ) (i : Nat) (hi : i < l.length) (kind : Int) (name : ByteArray) (size elem count : Int) (fields : List Fld) (hI : idxAddr 6 (.rs (l.map Typ.enc)) (i : Int) = some (.rp (Typ.enc ⟨kind, name, size, elem, count, fields⟩) 0))
    (hname : name.size ≤ maxLen) (hfl : fields.length ≤ maxLen) (okT : Nat → Prop) (c : Nat → Int)
    (hcall : ∀ k, k < fields.length → (0 < k → okT (k - 1)) → Rt T 115 [.rs (l.map Typ.enc), .int .i64 i, .int .i64 k] (.int .i64 (c k)))
    (htype : ∀ k, k < fields.length → c k = 0 → okT k) (code : Int)
    (hfin : ∀ x, typC l i ⟨kind, name, size, elem, count, fields⟩ = x → x = code)
    (hc : c = codeAt fields (fldC l i ⟨kind, name, size, elem, count, fields⟩)) (h1 : decide (kind < 1) = true) :
    Rt T 103 [.rs (l.map Typ.enc), .int .i64 i] (.int .i64 code) := by
  clear hcall htype
  refine Rt.wp rfl rfl ?_
  repeat' ((conv => whnf); first | refine Br.T ?_ | refine Br.F ?_ | refine And.intro rfl ?_ | refine eq_bool ?_ | refine eq_int ?_ | refine SomeP.mk' (hI) ?_ | refine SomeP.mk' (idx_typ2 (by assumption) (by assumption) hi) ?_ | refine CallP.mk' (isTok_rt _ hname) ?_ | refine Br.N ?_ | refine Br.kt (by assumption) ?_ | refine Br.kf (by assumption) ?_ | refine Br.mk (fun h => ?_) (fun h => ?_) | refine eq_some ?_)
  all_goals (exact hfin _ (by clear hfin hI hc; (try simp only [List.length_map, Bool.and_true] at *); first | (simp only [bne, typC, emptyS, *, decide_true, decide_false, Bool.true_or, Bool.false_or, Bool.or_true, Bool.or_false, Bool.true_and, Bool.false_and, Bool.and_true, Bool.and_false, Bool.not_true, Bool.not_false, cond_true, cond_false] <;> rfl) | (exfalso; simp_all; done) | (simp only [bne, typC, emptyS]; simp_all only [decide_true, decide_false, Bool.true_or, Bool.false_or, Bool.or_true, Bool.or_false, Bool.true_and, Bool.false_and, Bool.and_true, Bool.and_false, Bool.not_true, Bool.not_false, cond_true, cond_false]; done)))
set_option maxHeartbeats 4000000 in
theorem typC_hi (l : List Typ) (i : Nat) (hi : i < l.length) (kind : Int) (name : ByteArray) (size elem count : Int) (fields : List Fld) (hI : idxAddr 6 (.rs (l.map Typ.enc)) (i : Int) = some (.rp (Typ.enc ⟨kind, name, size, elem, count, fields⟩) 0))
    (hname : name.size ≤ maxLen) (hfl : fields.length ≤ maxLen) (okT : Nat → Prop) (c : Nat → Int)
    (hcall : ∀ k, k < fields.length → (0 < k → okT (k - 1)) → Rt T 115 [.rs (l.map Typ.enc), .int .i64 i, .int .i64 k] (.int .i64 (c k)))
    (htype : ∀ k, k < fields.length → c k = 0 → okT k) (code : Int)
    (hfin : ∀ x, typC l i ⟨kind, name, size, elem, count, fields⟩ = x → x = code)
    (hc : c = codeAt fields (fldC l i ⟨kind, name, size, elem, count, fields⟩)) (h1 : decide (kind > 4) = true) :
    Rt T 103 [.rs (l.map Typ.enc), .int .i64 i] (.int .i64 code) := by
  clear hcall htype
  refine Rt.wp rfl rfl ?_
  repeat' ((conv => whnf); first | refine Br.T ?_ | refine Br.F ?_ | refine And.intro rfl ?_ | refine eq_bool ?_ | refine eq_int ?_ | refine SomeP.mk' (hI) ?_ | refine SomeP.mk' (idx_typ2 (by assumption) (by assumption) hi) ?_ | refine CallP.mk' (isTok_rt _ hname) ?_ | refine Br.N ?_ | refine Br.kt (by assumption) ?_ | refine Br.kf (by assumption) ?_ | refine Br.mk (fun h => ?_) (fun h => ?_) | refine eq_some ?_)
  all_goals (exact hfin _ (by clear hfin hI hc; (try simp only [List.length_map, Bool.and_true] at *); first | (simp only [bne, typC, emptyS, *, decide_true, decide_false, Bool.true_or, Bool.false_or, Bool.or_true, Bool.or_false, Bool.true_and, Bool.false_and, Bool.and_true, Bool.and_false, Bool.not_true, Bool.not_false, cond_true, cond_false] <;> rfl) | (exfalso; simp_all; done) | (simp only [bne, typC, emptyS]; simp_all only [decide_true, decide_false, Bool.true_or, Bool.false_or, Bool.or_true, Bool.or_false, Bool.true_and, Bool.false_and, Bool.and_true, Bool.and_false, Bool.not_true, Bool.not_false, cond_true, cond_false]; done)))
set_option maxHeartbeats 4000000 in
theorem typC_1 (l : List Typ) (i : Nat) (hi : i < l.length) (name : ByteArray) (size elem count : Int) (fields : List Fld) (hI : idxAddr 6 (.rs (l.map Typ.enc)) (i : Int) = some (.rp (Typ.enc ⟨1, name, size, elem, count, fields⟩) 0))
    (hname : name.size ≤ maxLen) (hfl : fields.length ≤ maxLen) (okT : Nat → Prop) (c : Nat → Int)
    (hcall : ∀ k, k < fields.length → (0 < k → okT (k - 1)) → Rt T 115 [.rs (l.map Typ.enc), .int .i64 i, .int .i64 k] (.int .i64 (c k)))
    (htype : ∀ k, k < fields.length → c k = 0 → okT k) (code : Int)
    (hfin : ∀ x, typC l i ⟨1, name, size, elem, count, fields⟩ = x → x = code)
    (hc : c = codeAt fields (fldC l i ⟨1, name, size, elem, count, fields⟩)) :
    Rt T 103 [.rs (l.map Typ.enc), .int .i64 i] (.int .i64 code) := by
  refine Rt.wp rfl rfl ?_
  repeat' ((conv => whnf); first | refine Br.T ?_ | refine Br.F ?_ | refine And.intro rfl ?_ | refine eq_bool ?_ | refine eq_int ?_ | refine SomeP.mk' (hI) ?_ | refine SomeP.mk' (idx_typ2 (by assumption) (by assumption) hi) ?_ | refine CallP.mk' (isTok_rt _ hname) ?_ | refine Br.N ?_ | refine Br.kt (by assumption) ?_ | refine Br.kf (by assumption) ?_ | refine Br.mk (fun h => ?_) (fun h => ?_) | refine eq_some ?_)
  all_goals first
    | exact hfin _ (by clear hcall htype hfin hI hc; (try simp only [List.length_map, Bool.and_true] at *); first | (simp only [bne, typC, emptyS, *, decide_true, decide_false, Bool.true_or, Bool.false_or, Bool.or_true, Bool.or_false, Bool.true_and, Bool.false_and, Bool.and_true, Bool.and_false, Bool.not_true, Bool.not_false, cond_true, cond_false] <;> rfl) | (exfalso; simp_all; done) | (simp only [bne, typC, emptyS]; simp_all only [decide_true, decide_false, Bool.true_or, Bool.false_or, Bool.or_true, Bool.or_false, Bool.true_and, Bool.false_and, Bool.and_true, Bool.and_false, Bool.not_true, Bool.not_false, cond_true, cond_false]; done))
    | skip
  all_goals (have hres := hfin (optE (firstE c fields.length 0)) (by rw [hc]; clear hcall htype hfin hI hc; (try simp only [List.length_map, Bool.and_true] at *); first | (simp only [bne, typC, emptyS, *, decide_true, decide_false, Bool.true_or, Bool.false_or, Bool.or_true, Bool.or_false, Bool.true_and, Bool.false_and, Bool.and_true, Bool.and_false, Bool.not_true, Bool.not_false, cond_true, cond_false] <;> rfl) | (exfalso; simp_all; done) | (simp only [bne, typC, emptyS]; simp_all only [decide_true, decide_false, Bool.true_or, Bool.false_or, Bool.or_true, Bool.or_false, Bool.true_and, Bool.false_and, Bool.and_true, Bool.and_false, Bool.not_true, Bool.not_false, cond_true, cond_false]; done)))
  all_goals (clear hfin hI hc)
  all_goals (refine LoopP.by (α := Nat) (fun k => fields.length - k) (fun k => k ≤ fields.length ∧ optE (firstE c fields.length 0) = optE (firstE c (fields.length - k) k) ∧ (0 < k → okT (k - 1))) (fun k => [.int .i64 k]) (fun k => [(5, ⟨6, [Typ.enc ⟨_, name, size, elem, count, fields⟩]⟩)]) 0 ⟨Nat.zero_le _, rfl, fun h => absurd h (Nat.lt_irrefl _)⟩ rfl (fun k hk => ?_))
  all_goals
    obtain ⟨h1, h2, h3⟩ := hk
    refine Br.mk (fun h => ?_) (fun h => ?_)
    · have hlt : k < fields.length := by simp at h; omega
      rw [firstE_step hlt] at h2
      refine CallP.mk' (hcall k hlt h3) ?_
      refine Br.mk (fun h => ?_) (fun h => ?_)
      · exact eq_int (by rw [← hres, h2, h]; rfl)
      · refine ⟨k + 1, by omega, ⟨by omega, by rw [h2, h]; rfl, fun _ => htype k hlt (by simpa using h)⟩, ?_⟩
        rw [← wrap_nat (show k < 9223372036854775807 by unfold maxLen at hfl; omega)]; rfl
    · have hge : fields.length ≤ k := by simp at h; omega
      exact eq_int (by rw [← hres, h2, show fields.length - k = 0 by omega]; rfl)
set_option maxHeartbeats 4000000 in
theorem typC_2 (l : List Typ) (i : Nat) (hi : i < l.length) (name : ByteArray) (size elem count : Int) (fields : List Fld) (hI : idxAddr 6 (.rs (l.map Typ.enc)) (i : Int) = some (.rp (Typ.enc ⟨2, name, size, elem, count, fields⟩) 0))
    (hname : name.size ≤ maxLen) (hfl : fields.length ≤ maxLen) (okT : Nat → Prop) (c : Nat → Int)
    (hcall : ∀ k, k < fields.length → (0 < k → okT (k - 1)) → Rt T 115 [.rs (l.map Typ.enc), .int .i64 i, .int .i64 k] (.int .i64 (c k)))
    (htype : ∀ k, k < fields.length → c k = 0 → okT k) (code : Int)
    (hfin : ∀ x, typC l i ⟨2, name, size, elem, count, fields⟩ = x → x = code)
    (hc : c = codeAt fields (fldC l i ⟨2, name, size, elem, count, fields⟩)) :
    Rt T 103 [.rs (l.map Typ.enc), .int .i64 i] (.int .i64 code) := by
  refine Rt.wp rfl rfl ?_
  repeat' ((conv => whnf); first | refine Br.T ?_ | refine Br.F ?_ | refine And.intro rfl ?_ | refine eq_bool ?_ | refine eq_int ?_ | refine SomeP.mk' (hI) ?_ | refine SomeP.mk' (idx_typ2 (by assumption) (by assumption) hi) ?_ | refine CallP.mk' (isTok_rt _ hname) ?_ | refine Br.N ?_ | refine Br.kt (by assumption) ?_ | refine Br.kf (by assumption) ?_ | refine Br.mk (fun h => ?_) (fun h => ?_) | refine eq_some ?_)
  all_goals first
    | exact hfin _ (by clear hcall htype hfin hI hc; (try simp only [List.length_map, Bool.and_true] at *); first | (simp only [bne, typC, emptyS, *, decide_true, decide_false, Bool.true_or, Bool.false_or, Bool.or_true, Bool.or_false, Bool.true_and, Bool.false_and, Bool.and_true, Bool.and_false, Bool.not_true, Bool.not_false, cond_true, cond_false] <;> rfl) | (exfalso; simp_all; done) | (simp only [bne, typC, emptyS]; simp_all only [decide_true, decide_false, Bool.true_or, Bool.false_or, Bool.or_true, Bool.or_false, Bool.true_and, Bool.false_and, Bool.and_true, Bool.and_false, Bool.not_true, Bool.not_false, cond_true, cond_false]; done))
    | skip
  all_goals (have hres := hfin (optE (firstE c fields.length 0)) (by rw [hc]; clear hcall htype hfin hI hc; (try simp only [List.length_map, Bool.and_true] at *); first | (simp only [bne, typC, emptyS, *, decide_true, decide_false, Bool.true_or, Bool.false_or, Bool.or_true, Bool.or_false, Bool.true_and, Bool.false_and, Bool.and_true, Bool.and_false, Bool.not_true, Bool.not_false, cond_true, cond_false] <;> rfl) | (exfalso; simp_all; done) | (simp only [bne, typC, emptyS]; simp_all only [decide_true, decide_false, Bool.true_or, Bool.false_or, Bool.or_true, Bool.or_false, Bool.true_and, Bool.false_and, Bool.and_true, Bool.and_false, Bool.not_true, Bool.not_false, cond_true, cond_false]; done)))
  all_goals (clear hfin hI hc)
  all_goals (refine LoopP.by (α := Nat) (fun k => fields.length - k) (fun k => k ≤ fields.length ∧ optE (firstE c fields.length 0) = optE (firstE c (fields.length - k) k) ∧ (0 < k → okT (k - 1))) (fun k => [.int .i64 k]) (fun k => [(5, ⟨6, [Typ.enc ⟨_, name, size, elem, count, fields⟩]⟩)]) 0 ⟨Nat.zero_le _, rfl, fun h => absurd h (Nat.lt_irrefl _)⟩ rfl (fun k hk => ?_))
  all_goals
    obtain ⟨h1, h2, h3⟩ := hk
    refine Br.mk (fun h => ?_) (fun h => ?_)
    · have hlt : k < fields.length := by simp at h; omega
      rw [firstE_step hlt] at h2
      refine CallP.mk' (hcall k hlt h3) ?_
      refine Br.mk (fun h => ?_) (fun h => ?_)
      · exact eq_int (by rw [← hres, h2, h]; rfl)
      · refine ⟨k + 1, by omega, ⟨by omega, by rw [h2, h]; rfl, fun _ => htype k hlt (by simpa using h)⟩, ?_⟩
        rw [← wrap_nat (show k < 9223372036854775807 by unfold maxLen at hfl; omega)]; rfl
    · have hge : fields.length ≤ k := by simp at h; omega
      exact eq_int (by rw [← hres, h2, show fields.length - k = 0 by omega]; rfl)
set_option maxHeartbeats 4000000 in
theorem typC_3 (l : List Typ) (i : Nat) (hi : i < l.length) (name : ByteArray) (size elem count : Int) (fields : List Fld) (hI : idxAddr 6 (.rs (l.map Typ.enc)) (i : Int) = some (.rp (Typ.enc ⟨3, name, size, elem, count, fields⟩) 0))
    (hname : name.size ≤ maxLen) (hfl : fields.length ≤ maxLen) (okT : Nat → Prop) (c : Nat → Int)
    (hcall : ∀ k, k < fields.length → (0 < k → okT (k - 1)) → Rt T 115 [.rs (l.map Typ.enc), .int .i64 i, .int .i64 k] (.int .i64 (c k)))
    (htype : ∀ k, k < fields.length → c k = 0 → okT k) (code : Int)
    (hfin : ∀ x, typC l i ⟨3, name, size, elem, count, fields⟩ = x → x = code)
    (hc : c = codeAt fields (fldC l i ⟨3, name, size, elem, count, fields⟩)) :
    Rt T 103 [.rs (l.map Typ.enc), .int .i64 i] (.int .i64 code) := by
  refine Rt.wp rfl rfl ?_
  repeat' ((conv => whnf); first | refine Br.T ?_ | refine Br.F ?_ | refine And.intro rfl ?_ | refine eq_bool ?_ | refine eq_int ?_ | refine SomeP.mk' (hI) ?_ | refine SomeP.mk' (idx_typ2 (by assumption) (by assumption) hi) ?_ | refine CallP.mk' (isTok_rt _ hname) ?_ | refine Br.N ?_ | refine Br.kt (by assumption) ?_ | refine Br.kf (by assumption) ?_ | refine Br.mk (fun h => ?_) (fun h => ?_) | refine eq_some ?_)
  all_goals first
    | exact hfin _ (by clear hcall htype hfin hI hc; (try simp only [List.length_map, Bool.and_true] at *); first | (simp only [bne, typC, emptyS, *, decide_true, decide_false, Bool.true_or, Bool.false_or, Bool.or_true, Bool.or_false, Bool.true_and, Bool.false_and, Bool.and_true, Bool.and_false, Bool.not_true, Bool.not_false, cond_true, cond_false] <;> rfl) | (exfalso; simp_all; done) | (simp only [bne, typC, emptyS]; simp_all only [decide_true, decide_false, Bool.true_or, Bool.false_or, Bool.or_true, Bool.or_false, Bool.true_and, Bool.false_and, Bool.and_true, Bool.and_false, Bool.not_true, Bool.not_false, cond_true, cond_false]; done))
    | skip
  all_goals (have hres := hfin (optE (firstE c fields.length 0)) (by rw [hc]; clear hcall htype hfin hI hc; (try simp only [List.length_map, Bool.and_true] at *); first | (simp only [bne, typC, emptyS, *, decide_true, decide_false, Bool.true_or, Bool.false_or, Bool.or_true, Bool.or_false, Bool.true_and, Bool.false_and, Bool.and_true, Bool.and_false, Bool.not_true, Bool.not_false, cond_true, cond_false] <;> rfl) | (exfalso; simp_all; done) | (simp only [bne, typC, emptyS]; simp_all only [decide_true, decide_false, Bool.true_or, Bool.false_or, Bool.or_true, Bool.or_false, Bool.true_and, Bool.false_and, Bool.and_true, Bool.and_false, Bool.not_true, Bool.not_false, cond_true, cond_false]; done)))
  all_goals (clear hfin hI hc)
  all_goals (refine LoopP.by (α := Nat) (fun k => fields.length - k) (fun k => k ≤ fields.length ∧ optE (firstE c fields.length 0) = optE (firstE c (fields.length - k) k) ∧ (0 < k → okT (k - 1))) (fun k => [.int .i64 k]) (fun k => [(5, ⟨6, [Typ.enc ⟨_, name, size, elem, count, fields⟩]⟩)]) 0 ⟨Nat.zero_le _, rfl, fun h => absurd h (Nat.lt_irrefl _)⟩ rfl (fun k hk => ?_))
  all_goals
    obtain ⟨h1, h2, h3⟩ := hk
    refine Br.mk (fun h => ?_) (fun h => ?_)
    · have hlt : k < fields.length := by simp at h; omega
      rw [firstE_step hlt] at h2
      refine CallP.mk' (hcall k hlt h3) ?_
      refine Br.mk (fun h => ?_) (fun h => ?_)
      · exact eq_int (by rw [← hres, h2, h]; rfl)
      · refine ⟨k + 1, by omega, ⟨by omega, by rw [h2, h]; rfl, fun _ => htype k hlt (by simpa using h)⟩, ?_⟩
        rw [← wrap_nat (show k < 9223372036854775807 by unfold maxLen at hfl; omega)]; rfl
    · have hge : fields.length ≤ k := by simp at h; omega
      exact eq_int (by rw [← hres, h2, show fields.length - k = 0 by omega]; rfl)
set_option maxHeartbeats 4000000 in
theorem typC_4 (l : List Typ) (i : Nat) (hi : i < l.length) (name : ByteArray) (size elem count : Int) (fields : List Fld) (hI : idxAddr 6 (.rs (l.map Typ.enc)) (i : Int) = some (.rp (Typ.enc ⟨4, name, size, elem, count, fields⟩) 0))
    (hname : name.size ≤ maxLen) (hfl : fields.length ≤ maxLen) (okT : Nat → Prop) (c : Nat → Int)
    (hcall : ∀ k, k < fields.length → (0 < k → okT (k - 1)) → Rt T 115 [.rs (l.map Typ.enc), .int .i64 i, .int .i64 k] (.int .i64 (c k)))
    (htype : ∀ k, k < fields.length → c k = 0 → okT k) (code : Int)
    (hfin : ∀ x, typC l i ⟨4, name, size, elem, count, fields⟩ = x → x = code)
    (hc : c = codeAt fields (fldC l i ⟨4, name, size, elem, count, fields⟩)) :
    Rt T 103 [.rs (l.map Typ.enc), .int .i64 i] (.int .i64 code) := by
  refine Rt.wp rfl rfl ?_
  repeat' ((conv => whnf); first | refine Br.T ?_ | refine Br.F ?_ | refine And.intro rfl ?_ | refine eq_bool ?_ | refine eq_int ?_ | refine SomeP.mk' (hI) ?_ | refine SomeP.mk' (idx_typ2 (by assumption) (by assumption) hi) ?_ | refine CallP.mk' (isTok_rt _ hname) ?_ | refine Br.N ?_ | refine Br.kt (by assumption) ?_ | refine Br.kf (by assumption) ?_ | refine Br.mk (fun h => ?_) (fun h => ?_) | refine eq_some ?_)
  all_goals first
    | exact hfin _ (by clear hcall htype hfin hI hc; (try simp only [List.length_map, Bool.and_true] at *); first | (simp only [bne, typC, emptyS, *, decide_true, decide_false, Bool.true_or, Bool.false_or, Bool.or_true, Bool.or_false, Bool.true_and, Bool.false_and, Bool.and_true, Bool.and_false, Bool.not_true, Bool.not_false, cond_true, cond_false] <;> rfl) | (exfalso; simp_all; done) | (simp only [bne, typC, emptyS]; simp_all only [decide_true, decide_false, Bool.true_or, Bool.false_or, Bool.or_true, Bool.or_false, Bool.true_and, Bool.false_and, Bool.and_true, Bool.and_false, Bool.not_true, Bool.not_false, cond_true, cond_false]; done))
    | skip
  all_goals (have hres := hfin (optE (firstE c fields.length 0)) (by rw [hc]; clear hcall htype hfin hI hc; (try simp only [List.length_map, Bool.and_true] at *); first | (simp only [bne, typC, emptyS, *, decide_true, decide_false, Bool.true_or, Bool.false_or, Bool.or_true, Bool.or_false, Bool.true_and, Bool.false_and, Bool.and_true, Bool.and_false, Bool.not_true, Bool.not_false, cond_true, cond_false] <;> rfl) | (exfalso; simp_all; done) | (simp only [bne, typC, emptyS]; simp_all only [decide_true, decide_false, Bool.true_or, Bool.false_or, Bool.or_true, Bool.or_false, Bool.true_and, Bool.false_and, Bool.and_true, Bool.and_false, Bool.not_true, Bool.not_false, cond_true, cond_false]; done)))
  all_goals (clear hfin hI hc)
  all_goals (refine LoopP.by (α := Nat) (fun k => fields.length - k) (fun k => k ≤ fields.length ∧ optE (firstE c fields.length 0) = optE (firstE c (fields.length - k) k) ∧ (0 < k → okT (k - 1))) (fun k => [.int .i64 k]) (fun k => [(5, ⟨6, [Typ.enc ⟨_, name, size, elem, count, fields⟩]⟩)]) 0 ⟨Nat.zero_le _, rfl, fun h => absurd h (Nat.lt_irrefl _)⟩ rfl (fun k hk => ?_))
  all_goals
    obtain ⟨h1, h2, h3⟩ := hk
    refine Br.mk (fun h => ?_) (fun h => ?_)
    · have hlt : k < fields.length := by simp at h; omega
      rw [firstE_step hlt] at h2
      refine CallP.mk' (hcall k hlt h3) ?_
      refine Br.mk (fun h => ?_) (fun h => ?_)
      · exact eq_int (by rw [← hres, h2, h]; rfl)
      · refine ⟨k + 1, by omega, ⟨by omega, by rw [h2, h]; rfl, fun _ => htype k hlt (by simpa using h)⟩, ?_⟩
        rw [← wrap_nat (show k < 9223372036854775807 by unfold maxLen at hfl; omega)]; rfl
    · have hge : fields.length ≤ k := by simp at h; omega
      exact eq_int (by rw [← hres, h2, show fields.length - k = 0 by omega]; rfl)
theorem typC_any (l : List Typ) (i : Nat) (hi : i < l.length) (kind : Int) (name : ByteArray) (size elem count : Int) (fields : List Fld) (hI : idxAddr 6 (.rs (l.map Typ.enc)) (i : Int) = some (.rp (Typ.enc ⟨kind, name, size, elem, count, fields⟩) 0))
    (hname : name.size ≤ maxLen) (hfl : fields.length ≤ maxLen) (okT : Nat → Prop) (c : Nat → Int)
    (hcall : ∀ k, k < fields.length → (0 < k → okT (k - 1)) → Rt T 115 [.rs (l.map Typ.enc), .int .i64 i, .int .i64 k] (.int .i64 (c k)))
    (htype : ∀ k, k < fields.length → c k = 0 → okT k) (code : Int)
    (hfin : ∀ x, typC l i ⟨kind, name, size, elem, count, fields⟩ = x → x = code)
    (hc : c = codeAt fields (fldC l i ⟨kind, name, size, elem, count, fields⟩)) :
    Rt T 103 [.rs (l.map Typ.enc), .int .i64 i] (.int .i64 code) := by
  have hk : kind < 1 ∨ 4 < kind ∨ kind = 1 ∨ kind = 2 ∨ kind = 3 ∨ kind = 4 := by omega
  rcases hk with hk | hk | rfl | rfl | rfl | rfl
  · exact typC_lo l i hi kind name size elem count fields hI hname hfl okT c hcall htype code hfin hc (by simpa using hk)
  · exact typC_hi l i hi kind name size elem count fields hI hname hfl okT c hcall htype code hfin hc (by simpa using hk)
  · exact typC_1 l i hi name size elem count fields hI hname hfl okT c hcall htype code hfin hc
  · exact typC_2 l i hi name size elem count fields hI hname hfl okT c hcall htype code hfin hc
  · exact typC_3 l i hi name size elem count fields hI hname hfl okT c hcall htype code hfin hc
  · exact typC_4 l i hi name size elem count fields hI hname hfl okT c hcall htype code hfin hc
theorem typC_rt (l : List Typ) (i : Nat) (hi : i < l.length) (hl : l.length ≤ maxLen) (t : Typ) (ht : l[i] = t) (hname : t.name.size ≤ maxLen) (hfl : t.fields.length ≤ maxLen) (hn : ∀ f ∈ t.fields, f.name.size ≤ maxLen) :
    Rt T 103 [.rs (l.map Typ.enc), .int .i64 i] (.int .i64 (typC l i t)) := by
  have hI := idx_map (enc := Typ.enc) (sz := 6) hi fun _ => rfl
  rw [ht] at hI
  refine typC_any l i hi _ _ _ _ _ _ hI hname hfl (fun k => ∀ h : k < t.fields.length, 0 ≤ t.fields[k].type ∧ t.fields[k].type < l.length) (codeAt t.fields (fldC l i t)) (fun k hk hp => ?_) (fun k hk h _ => ?_) _ (fun _ h => h.symm) rfl
  · subst ht
    rw [codeAt_eq hk]
    exact fldC_rt l i hi hl k hk hfl hn fun h => hp h (by omega)
  · rw [codeAt_eq hk] at h
    exact fldC_type hi h
theorem recF_rt (l : List Typ) (hl : l.length ≤ maxLen) (hn : ∀ e ∈ l, e.name.size ≤ maxLen ∧ e.fields.length ≤ maxLen ∧ ∀ f ∈ e.fields, f.name.size ≤ maxLen) : Rt T 77 [.rs (l.map Typ.enc)] (recF l).enc := by
  refine Rt.wp rfl rfl ?_
  refine Br.mk (fun h => ?_) (fun h => ?_)
  · refine eq_some ?_
    simp only [List.length_map] at h
    simp only [recF, h]; rfl
  · have h0 : recF l = fltE (fun k => k) (firstE (codeAt l fun k t _ => typC l k t) (l.length - 0) 0) := by simp only [List.length_map] at h; simp only [recF, h]; rfl
    refine LoopP.by (α := Nat) (fun k => l.length - k) (fun k => k ≤ l.length ∧ recF l = fltE (fun k => k) (firstE (codeAt l fun k t _ => typC l k t) (l.length - k) k)) (fun k => [.int .i64 k]) (fun k => fblk) 0 ⟨Nat.zero_le _, h0⟩ rfl (fun k hk => ?_)
    obtain ⟨h1, h2⟩ := hk
    refine Br.mk (fun h => ?_) (fun h => ?_)
    · have hlt : k < l.length := by simp at h; omega
      rw [firstE_step hlt, codeAt_eq hlt] at h2
      obtain ⟨n1, n2, n3⟩ := hn _ (List.getElem_mem hlt)
      refine CallP.mk' (typC_rt l k hlt hl _ rfl n1 n2 n3) ?_
      refine Br.mk (fun h => ?_) (fun h => ?_)
      · exact eq_some (by rw [h2, h]; rfl)
      · refine ⟨k + 1, by omega, ⟨by omega, by rw [h2, h]; rfl⟩, ?_⟩
        rw [← wrap_nat (show k < 9223372036854775807 by unfold maxLen at hl; omega)]; rfl
    · have hge : l.length ≤ k := by simp at h; omega
      exact eq_some (by rw [h2, show l.length - k = 0 by omega]; rfl)
end Go.Proofs.YtnibcojenlijgaaGreatDoor.Ev
