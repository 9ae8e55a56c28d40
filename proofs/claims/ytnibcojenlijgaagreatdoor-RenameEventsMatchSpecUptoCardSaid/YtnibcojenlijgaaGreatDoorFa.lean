/- Functions of image checks at the evaluator: names, comparing, segments. No condition. -/
import Derived.Test.YtnibcojenlijgaaGreatDoorSp1
import Derived.Test.YtnibcojenlijgaaGreatDoorEv24
import Derived.Laws.Strings
set_option linter.unusedVariables false
set_option linter.unusedSimpArgs false
namespace Go.Proofs.YtnibcojenlijgaaGreatDoor.Ev
open Go Go.RowKit
set_option maxRecDepth 10000
theorem Br.N {b : Bool} {X Y : Prop} (h : Br b Y X) : Br (!b) X Y := ⟨fun e => h.f (by cases b <;> simp_all), fun e => h.t (by cases b <;> simp_all)⟩
theorem Br.kt {b : Bool} {X Y : Prop} (hb : b = true) (h : X) : Br b X Y := ⟨fun _ => h, fun e => (nomatch (hb.symm.trans e))⟩
theorem Br.kf {b : Bool} {X Y : Prop} (hb : b = false) (h : Y) : Br b X Y := ⟨fun e => (nomatch (hb.symm.trans e)), fun _ => h⟩
theorem wrap_nat {n : Nat} (h : n < 9223372036854775807) : IntKind.wrap .i64 ((n : Int) + 1) = ((n + 1 : Nat) : Int) := by
  simp [IntKind.wrap, IntKind.signed, IntKind.bits]
  omega
theorem wrap_in {n : Int} (h : -9223372036854775808 ≤ n) (h' : n ≤ 9223372036854775807) : IntKind.wrap .i64 n = n := by
  simp [IntKind.wrap, IntKind.signed, IntKind.bits]
  omega
theorem w64_in {n : Int} (h : -9223372036854775808 ≤ n) (h' : n ≤ 9223372036854775807) : w64 n = n := wrap_in h h'
theorem idx_map {α : Type} {enc : α → List AV} {l : List α} {k : Nat} {sz : Nat} (hk : k < l.length) (hl : ∀ x, (enc x).length = sz) : idxAddr sz (.rs (l.map enc)) (k : Int) = some (.rp (enc l[k]) 0) := by
  simp [idxAddr, hk, hl]
theorem idx_pred {α : Type} {enc : α → List AV} {l : List α} {k : Nat} {sz : Nat} (h0 : decide ((k : Int) > 0) = true) (hk : k < l.length) (hm : l.length ≤ maxLen) (hl : ∀ x, (enc x).length = sz) : idxAddr sz (.rs (l.map enc)) (IntKind.wrap .i64 ((k : Int) - 1)) = some (.rp (enc (l[k - 1]'(by omega))) 0) := by
  have h1 : 0 < k := by simpa using h0
  unfold maxLen at hm
  rw [wrap_in (by omega) (by omega), show (k : Int) - 1 = ((k - 1 : Nat) : Int) by omega]
  exact idx_map (by omega) hl
theorem len_data (s : ByteArray) : s.data.toList.length = s.size := Array.length_toList
theorem idx_str {s : ByteArray} {k : Nat} (hk : k < s.data.toList.length) : idxStr s (k : Int) = some (.int .u8 s.data.toList[k].toNat) := by
  have h2 : k < s.size := by rw [len_data] at hk; exact hk
  have h3 : s[k]? = some s[k] := getElem?_pos s k h2
  simp only [idxStr]
  rw [if_pos (by omega)]
  simp only [Int.toNat_natCast, h3]
  rfl
theorem idxFrom_drop {α : Type} {p : α → Bool} {l : List α} {k : Nat} (hk : k < l.length) : idxFrom p (l.drop k) k = bif p l[k] then (k : Int) else idxFrom p (l.drop (k + 1)) ((k + 1 : Nat) : Int) := by
  rw [List.drop_eq_getElem_cons hk]; rfl
theorem allFrom_drop {p : Int → Int → Bool} {l : List UInt8} {k : Nat} (hk : k < l.length) : allFrom p k (l.drop k) = (p k l[k].toNat && allFrom p (k + 1) (l.drop (k + 1))) := by
  rw [List.drop_eq_getElem_cons hk]; rfl

/-! ### Names -/
theorem isName_rt (s : ByteArray) (hs : s.size ≤ maxLen) : Rt T 67 [.str s] (.bool (isName s)) := by
  have hlen := len_data s
  refine Rt.wp rfl rfl ?_
  refine LoopP.by (α := Nat) (fun k => s.size - k) (fun k => k ≤ s.size ∧ allFrom nameB 0 s.data.toList = allFrom nameB k (s.data.toList.drop k)) (fun k => [.int .i64 k]) (fun k => []) 0 ⟨Nat.zero_le _, rfl⟩ rfl (fun k hk => ?_)
  obtain ⟨h1, h2⟩ := hk
  refine Br.mk (fun h => ?_) (fun h => ?_)
  · have hlt : k < s.data.toList.length := by simp at h; omega
    rw [allFrom_drop hlt] at h2
    have fin1 : nameB k s.data.toList[k].toNat = true → ∃ y, s.size - y < s.size - k ∧ (y ≤ s.size ∧ allFrom nameB 0 s.data.toList = allFrom nameB y (s.data.toList.drop y)) ∧ ([AV.int .i64 (IntKind.wrap .i64 (k + 1))], ([] : List (Nat × Blk))) = ([.int .i64 y], []) := fun hb => ⟨k + 1, by omega, ⟨by omega, by rw [h2, hb]; rfl⟩, by rw [wrap_nat (show k < 9223372036854775807 by unfold maxLen at hs; omega)]⟩
    have fin0 : nameB k s.data.toList[k].toNat = false → false = isName s := fun hb => by simp only [isName]; rw [h2, hb]; rfl
    clear h h2 h1 hs hlen
    repeat' ((conv => whnf); first | refine Br.T ?_ | refine Br.F ?_ | refine And.intro rfl ?_ | refine eq_bool ?_ | refine eq_int ?_ | refine SomeP.mk' (idx_str hlt) ?_ | refine Br.N ?_ | refine Br.kt (by assumption) ?_ | refine Br.kf (by assumption) ?_ | refine Br.mk (fun h => ?_) (fun h => ?_) | refine eq_some ?_)
    all_goals first
      | exact fin1 (by simp only [nameB, nameLetter, *]; rfl)
      | exact fin0 (by simp only [nameB, nameLetter, *]; rfl)
  · have hge : s.data.toList.length ≤ k := by simp at h; omega
    have fin : isName s = sizeOk s := by simp only [isName]; rw [h2, List.drop_of_length_le hge]; rfl
    clear h h2 h1 hs hlen
    repeat' ((conv => whnf); first | refine Br.T ?_ | refine Br.F ?_ | refine And.intro rfl ?_ | refine eq_bool ?_ | refine eq_int ?_ | refine Br.N ?_ | refine Br.kt (by assumption) ?_ | refine Br.kf (by assumption) ?_ | refine Br.mk (fun h => ?_) (fun h => ?_) | refine eq_some ?_)
    all_goals (rw [fin]; simp only [sizeOk, *]; try rfl)
theorem isDigit_rt (c : Int) : Rt T 118 [.int .u8 c] (.bool (isDigit c)) := by
  refine Rt.wp rfl rfl ?_
  repeat' ((conv => whnf); first | refine Br.T ?_ | refine Br.F ?_ | refine And.intro rfl ?_ | refine eq_bool ?_ | refine eq_int ?_ | refine Br.N ?_ | refine Br.kt (by assumption) ?_ | refine Br.kf (by assumption) ?_ | refine Br.mk (fun h => ?_) (fun h => ?_) | refine eq_some ?_)
  all_goals (simp only [isDigit, *]; try rfl)
theorem nameByte_rt (c : Int) : Rt T 117 [.int .u8 c] (.bool (nameByte c)) := by
  refine Rt.wp rfl rfl ?_
  repeat' ((conv => whnf); first | refine Br.T ?_ | refine Br.F ?_ | refine And.intro rfl ?_ | refine eq_bool ?_ | refine eq_int ?_ | refine CallP.mk' (isDigit_rt c) ?_ | refine Br.N ?_ | refine Br.kt (by assumption) ?_ | refine Br.kf (by assumption) ?_ | refine Br.mk (fun h => ?_) (fun h => ?_) | refine eq_some ?_)
  all_goals (simp only [nameByte, *]; try rfl)
theorem isTok_rt (s : ByteArray) (hs : s.size ≤ maxLen) : Rt T 114 [.str s] (.bool (isTok s)) := by
  have hlen := len_data s
  refine Rt.wp rfl rfl ?_
  refine LoopP.by (α := Nat) (fun k => s.size - k) (fun k => k ≤ s.size ∧ allFrom tokB 0 s.data.toList = allFrom tokB k (s.data.toList.drop k)) (fun k => [.int .i64 k]) (fun k => []) 0 ⟨Nat.zero_le _, rfl⟩ rfl (fun k hk => ?_)
  obtain ⟨h1, h2⟩ := hk
  refine Br.mk (fun h => ?_) (fun h => ?_)
  · have hlt : k < s.data.toList.length := by simp at h; omega
    rw [allFrom_drop hlt] at h2
    have fin1 : tokB k s.data.toList[k].toNat = true → ∃ y, s.size - y < s.size - k ∧ (y ≤ s.size ∧ allFrom tokB 0 s.data.toList = allFrom tokB y (s.data.toList.drop y)) ∧ ([AV.int .i64 (IntKind.wrap .i64 (k + 1))], ([] : List (Nat × Blk))) = ([.int .i64 y], []) := fun hb => ⟨k + 1, by omega, ⟨by omega, by rw [h2, hb]; rfl⟩, by rw [wrap_nat (show k < 9223372036854775807 by unfold maxLen at hs; omega)]⟩
    have fin0 : tokB k s.data.toList[k].toNat = false → false = isTok s := fun hb => by simp only [isTok]; rw [h2, hb]; rfl
    clear h h2 h1 hs hlen
    repeat' ((conv => whnf); first | refine Br.T ?_ | refine Br.F ?_ | refine And.intro rfl ?_ | refine eq_bool ?_ | refine eq_int ?_ | refine SomeP.mk' (idx_str hlt) ?_ | refine CallP.mk' (nameByte_rt _) ?_ | refine CallP.mk' (isDigit_rt _) ?_ | refine Br.N ?_ | refine Br.kt (by assumption) ?_ | refine Br.kf (by assumption) ?_ | refine Br.mk (fun h => ?_) (fun h => ?_) | refine eq_some ?_)
    all_goals first
      | exact fin1 (by simp only [tokB, *]; rfl)
      | exact fin0 (by simp only [tokB, *]; rfl)
  · have hge : s.data.toList.length ≤ k := by simp at h; omega
    have fin : isTok s = sizeOk s := by simp only [isTok]; rw [h2, List.drop_of_length_le hge]; rfl
    clear h h2 h1 hs hlen
    repeat' ((conv => whnf); first | refine Br.T ?_ | refine Br.F ?_ | refine And.intro rfl ?_ | refine eq_bool ?_ | refine eq_int ?_ | refine Br.N ?_ | refine Br.kt (by assumption) ?_ | refine Br.kf (by assumption) ?_ | refine Br.mk (fun h => ?_) (fun h => ?_) | refine eq_some ?_)
    all_goals (rw [fin]; simp only [sizeOk, *]; try rfl)
theorem version_rt (s : ByteArray) (hs : s.size ≤ maxLen) : Rt T 101 [.str s] (.bool (isVersion s)) := by
  refine Rt.wp rfl rfl ?_
  repeat' ((conv => whnf); first | refine Br.T ?_ | refine Br.F ?_ | refine And.intro rfl ?_ | refine eq_bool ?_ | refine eq_int ?_ | refine CallP.mk' (isName_rt s hs) ?_ | refine Br.N ?_ | refine Br.kt (by assumption) ?_ | refine Br.kf (by assumption) ?_ | refine Br.mk (fun h => ?_) (fun h => ?_) | refine eq_some ?_)
  all_goals (simp only [isVersion, emptyS, *]; try rfl)
theorem when_rt (b : Bool) (c : Int) : Rt T 51 [.bool b, .int .i64 c] (.int .i64 (bif b then c else 0)) := by
  refine Rt.wp rfl rfl ?_
  repeat' ((conv => whnf); first | refine Br.T ?_ | refine Br.F ?_ | refine And.intro rfl ?_ | refine eq_bool ?_ | refine eq_int ?_ | refine Br.N ?_ | refine Br.kt (by assumption) ?_ | refine Br.kf (by assumption) ?_ | refine Br.mk (fun h => ?_) (fun h => ?_) | refine eq_some ?_)
  all_goals (simp only [*]; try rfl)
theorem up_rt (n : Int) : Rt T 110 [.int .i64 n, .int .i64 256] (.int .i64 (upI n 256)) := by
  refine Rt.wp rfl rfl ?_
  repeat' ((conv => whnf); first | refine Br.T ?_ | refine Br.F ?_ | refine And.intro rfl ?_ | refine eq_bool ?_ | refine eq_int ?_ | refine Br.N ?_ | refine Br.kt (by assumption) ?_ | refine Br.kf (by assumption) ?_ | refine Br.mk (fun h => ?_) (fun h => ?_) | refine eq_some ?_)
  all_goals rfl
/-! ### Comparing -/
theorem isNaN_int_rt (a : Int) : Rt T 86 [.int .i64 a] (.bool false) := by
  refine Rt.wp rfl rfl ?_
  repeat' ((conv => whnf); first | refine Br.T ?_ | refine Br.F ?_ | refine And.intro rfl ?_ | refine eq_bool ?_ | refine eq_int ?_ | refine Br.N ?_ | refine Br.kt (by assumption) ?_ | refine Br.kf (by assumption) ?_ | refine Br.mk (fun h => ?_) (fun h => ?_) | refine eq_some ?_)
  all_goals simp
theorem isNaN_str_rt (a : ByteArray) : Rt T 116 [.str a] (.bool false) := by
  refine Rt.wp rfl rfl ?_
  repeat' ((conv => whnf); first | refine Br.T ?_ | refine Br.F ?_ | refine And.intro rfl ?_ | refine eq_bool ?_ | refine eq_int ?_ | refine Br.N ?_ | refine Br.kt (by assumption) ?_ | refine Br.kf (by assumption) ?_ | refine Br.mk (fun h => ?_) (fun h => ?_) | refine eq_some ?_)
  all_goals simp
theorem cmpI_rt (a b : Int) : Rt T 38 [.int .i64 a, .int .i64 b] (.int .i64 (cmpI a b)) := by
  refine Rt.wp rfl rfl ?_
  repeat' ((conv => whnf); first | refine Br.T ?_ | refine Br.F ?_ | refine And.intro rfl ?_ | refine eq_bool ?_ | refine eq_int ?_ | refine CallP.mk' (isNaN_int_rt _) ?_ | refine Br.N ?_ | refine Br.kt (by assumption) ?_ | refine Br.kf (by assumption) ?_ | refine Br.mk (fun h => ?_) (fun h => ?_) | refine eq_some ?_)
  all_goals (simp only [cmpI, *]; try rfl)
theorem cmpS_rt (a b : ByteArray) : Rt T 113 [.str a, .str b] (.int .i64 (cmpS a b)) := by
  refine Rt.wp rfl rfl ?_
  cases h2 : (a.toList == b.toList) <;>
  repeat' ((conv => whnf); first | refine Br.T ?_ | refine Br.F ?_ | refine And.intro rfl ?_ | refine eq_bool ?_ | refine eq_int ?_ | refine CallP.mk' (isNaN_str_rt _) ?_ | refine Br.N ?_ | refine Br.kt (by assumption) ?_ | refine Br.kf (by assumption) ?_ | refine Br.mk (fun h => ?_) (fun h => ?_) | refine eq_some ?_)
  all_goals (simp only [cmpS, lessS, gtrS, h2]; simp_all)
theorem or_rt (l : List Int) (hl : l.length ≤ maxLen) : Rt T 112 [.rs (l.map fun n => [.int .i64 n])] (.int .i64 (orL l)) := by
  refine Rt.wp rfl rfl ?_
  refine LoopP.by (α := Nat) (fun k => l.length - k) (fun k => k ≤ l.length ∧ orL l = orL (l.drop k)) (fun k => [.int .i64 k]) (fun k => []) 0 ⟨Nat.zero_le _, rfl⟩ rfl (fun k hk => ?_)
  obtain ⟨h1, h2⟩ := hk
  refine Br.mk (fun h => ?_) (fun h => ?_)
  · have hlt : k < l.length := by simp at h; omega
    rw [List.drop_eq_getElem_cons hlt] at h2
    refine SomeP.mk' (idx_map hlt fun _ => rfl) ?_
    refine Br.mk (fun h => ?_) (fun h => ?_)
    · exact eq_int (by rw [h2]; simp only [orL, h]; rfl)
    · refine ⟨k + 1, by omega, ⟨by omega, by rw [h2]; simp only [orL, h]; rfl⟩, ?_⟩
      rw [← wrap_nat (show k < 9223372036854775807 by unfold maxLen at hl; omega)]; rfl
  · exact eq_int (by
      have : l.length ≤ k := by simp at h; omega
      rw [h2, List.drop_of_length_le this]; rfl)
/-! ### Segments -/
theorem within1_rt (s : Seg) (addr size rights : Int) : Rt T 100 [.agg s.enc, .rp [.int .i64 rights] 0, .rp [.int .i64 addr] 0, .rp [.int .i64 size] 0] (.bool (s.has addr size rights)) := by
  refine Rt.wp rfl rfl ?_
  repeat' ((conv => whnf); first | refine Br.T ?_ | refine Br.F ?_ | refine And.intro rfl ?_ | refine eq_bool ?_ | refine eq_int ?_ | refine Br.N ?_ | refine Br.kt (by assumption) ?_ | refine Br.kf (by assumption) ?_ | refine Br.mk (fun h => ?_) (fun h => ?_) | refine eq_some ?_)
  all_goals (simp only [Seg.has, *]; try rfl)
theorem idxSeg_rt (l : List Seg) (addr size rights : Int) (hl : l.length ≤ maxLen) : Rt T 111 [.rs (l.map Seg.enc), .fn 100 [] [.rp [.int .i64 rights] 0, .rp [.int .i64 addr] 0, .rp [.int .i64 size] 0]] (.int .i64 (idxFrom (fun s => s.has addr size rights) l 0)) := by
  refine Rt.wp rfl rfl ?_
  refine LoopP.by (α := Nat) (fun k => l.length - k) (fun k => k ≤ l.length ∧ idxFrom (fun s => s.has addr size rights) l 0 = idxFrom (fun s => s.has addr size rights) (l.drop k) k) (fun k => [.int .i64 k]) (fun k => []) 0 ⟨Nat.zero_le _, rfl⟩ rfl (fun k hk => ?_)
  obtain ⟨h1, h2⟩ := hk
  refine Br.mk (fun h => ?_) (fun h => ?_)
  · have hlt : k < l.length := by simp at h; omega
    rw [idxFrom_drop hlt] at h2
    refine SomeP.mk' (idx_map hlt fun _ => rfl) ?_
    refine CallP.mk' (within1_rt l[k] addr size rights) ?_
    refine Br.mk (fun h => ?_) (fun h => ?_)
    · exact eq_int (by rw [h2, h]; rfl)
    · refine ⟨k + 1, by omega, ⟨by omega, by rw [h2, h]; rfl⟩, ?_⟩
      rw [← wrap_nat (show k < 9223372036854775807 by unfold maxLen at hl; omega)]; rfl
  · exact eq_int (by
      have : l.length ≤ k := by simp at h; omega
      rw [h2, List.drop_of_length_le this]; rfl)
theorem hasSeg_rt (l : List Seg) (addr size rights : Int) (hl : l.length ≤ maxLen) : Rt T 99 [.rs (l.map Seg.enc), .fn 100 [] [.rp [.int .i64 rights] 0, .rp [.int .i64 addr] 0, .rp [.int .i64 size] 0]] (.bool (decide (idxFrom (fun s => s.has addr size rights) l 0 ≥ 0))) := by
  refine Rt.wp rfl rfl ?_
  repeat' ((conv => whnf); first | refine Br.T ?_ | refine Br.F ?_ | refine And.intro rfl ?_ | refine eq_bool ?_ | refine eq_int ?_ | refine CallP.mk' (idxSeg_rt l addr size rights hl) ?_ | refine Br.N ?_ | refine Br.kt (by assumption) ?_ | refine Br.kf (by assumption) ?_ | refine Br.mk (fun h => ?_) (fun h => ?_) | refine eq_some ?_)
  all_goals rfl
theorem within_rt (x : Img) (hx : x.segs.length ≤ maxLen) (addr size rights : Int) : Rt T 52 [.agg x.enc, .int .i64 addr, .int .i64 size, .int .i64 rights] (.bool (within x addr size rights)) := by
  refine Rt.wp rfl rfl ?_
  repeat' ((conv => whnf); first | refine Br.T ?_ | refine Br.F ?_ | refine And.intro rfl ?_ | refine eq_bool ?_ | refine eq_int ?_ | refine CallP.mk' (hasSeg_rt x.segs addr size rights hx) ?_ | refine Br.N ?_ | refine Br.kt (by assumption) ?_ | refine Br.kf (by assumption) ?_ | refine Br.mk (fun h => ?_) (fun h => ?_) | refine eq_some ?_)
  all_goals rfl
end Go.Proofs.YtnibcojenlijgaaGreatDoor.Ev
