/- Lemmas for the claim's theorem. -/
import Derived.Test.YtljokmmgkecjbaaKa
set_option linter.unusedVariables false
set_option linter.unusedSimpArgs false
namespace Go.Proofs.Ytljokmmgkecjbaa
open Go Go.AM
/-! plain laws of ranges: strings ranked as numbers -/
theorem maxS_or (x y : ByteArray) : (sLess x y = true ∧ maxS x y = y) ∨ (sLess x y = false ∧ maxS x y = x) := by
  unfold maxS sLess
  cases h : Op.bytesLess x.toList y.toList <;> simp
theorem minS_or (x y : ByteArray) : (sLess y x = false ∧ minS x y = x) ∨ (sLess y x = true ∧ minS x y = y) := by
  have := sEq_or x y
  unfold sEq sLess at this
  unfold minS sLess
  rw [this]
  cases h : Op.bytesLess y.toList x.toList <;> simp
theorem less_max (k x y : ByteArray) : sLess k (maxS x y) = (sLess k x || sLess k y) := by
  rcases maxS_or x y with ⟨h1, h⟩ | ⟨h1, h⟩ <;> rw [h] <;> rw [Bool.eq_iff_iff] <;>
  simp only [rank_sLess (L := [k, x, y]), List.mem_cons, true_or, or_true, decide_eq_true_eq, decide_eq_false_iff_not, Bool.or_eq_true] at h1 ⊢ <;> omega
theorem max_less (k x y : ByteArray) : sLess (maxS x y) k = (sLess x k && sLess y k) := by
  rcases maxS_or x y with ⟨h1, h⟩ | ⟨h1, h⟩ <;> rw [h] <;> rw [Bool.eq_iff_iff] <;>
  simp only [rank_sLess (L := [k, x, y]), List.mem_cons, true_or, or_true, decide_eq_true_eq, decide_eq_false_iff_not, Bool.and_eq_true] at h1 ⊢ <;> omega
theorem min_less (k x y : ByteArray) : sLess (minS x y) k = (sLess x k || sLess y k) := by
  rcases minS_or x y with ⟨h1, h⟩ | ⟨h1, h⟩ <;> rw [h] <;> rw [Bool.eq_iff_iff] <;>
  simp only [rank_sLess (L := [k, x, y]), List.mem_cons, true_or, or_true, decide_eq_true_eq, decide_eq_false_iff_not, Bool.or_eq_true] at h1 ⊢ <;> omega

theorem meet_in (a b : Rng) (k : ByteArray) : inB (meetR a b) k = (inB a k && inB b k) := by
  obtain ⟨lo, hi, e⟩ := a
  obtain ⟨lo2, hi2, e2⟩ := b
  cases e <;> cases e2 <;>
  simp only [inB_eq, meetR, Bool.and_true, Bool.and_false, Bool.true_and, Bool.false_and, Bool.true_or, Bool.false_or, if_true, if_false, Bool.false_eq_true,
    rank_sLess (L := [lo, hi, lo2, hi2, k]), less_max, max_less, min_less, List.mem_cons, true_or, or_true] <;>
  (rw [Bool.eq_iff_iff]; simp only [Bool.and_eq_true, Bool.not_eq_true', decide_eq_false_iff_not, Bool.or_eq_false_iff, Bool.and_eq_false_iff] <;> omega)
theorem empty_in (a : Rng) (k : ByteArray) (h : emptyB a = true) : inB a k = false := by
  obtain ⟨lo, hi, e⟩ := a
  cases e
  · simp only [inB_eq, emptyB, Bool.not_false, Bool.true_and, Bool.false_or, rank_sLess (L := [lo, hi, k]), List.mem_cons, true_or, or_true, decide_eq_true_eq] at h ⊢
    simp only [Bool.and_eq_false_iff, Bool.not_eq_false', decide_eq_true_eq]; omega
  · simp [emptyB] at h
theorem empty_lo (a : Rng) : emptyB a = !inB a a.lo := (empty_eq a).symm
theorem inB_lo (a : Rng) (k : ByteArray) (h : inB a k = true) : emptyB a = false := by
  cases h' : emptyB a with
  | false => rfl
  | true => rw [empty_in a k h'] at h; cases h
theorem covers_in (a b : Rng) (k : ByteArray) (h : coversB a b = true) (h2 : inB b k = true) : inB a k = true := by
  have h3 := inB_lo b k h2
  obtain ⟨lo, hi, e⟩ := a
  obtain ⟨lo2, hi2, e2⟩ := b
  unfold coversB at h
  rw [h3, Bool.false_or] at h
  cases e <;> cases e2 <;>
  simp only [inB_eq, Bool.and_true, Bool.and_false, Bool.true_and, Bool.false_and, Bool.true_or, Bool.false_or, if_true, if_false, Bool.false_eq_true, Bool.not_true, Bool.not_false,
    rank_sLess (L := [lo, hi, lo2, hi2, k]), List.mem_cons, true_or, or_true, Bool.and_eq_true, Bool.not_eq_true', decide_eq_false_iff_not] at h h2 ⊢ <;> omega
theorem meet_lo (a b : Rng) : (meetR a b).lo = maxS a.lo b.lo := rfl
theorem maxS_comm (x y : ByteArray) : maxS x y = maxS y x := by
  rcases maxS_or x y with ⟨h1, h⟩ | ⟨h1, h⟩ <;> rcases maxS_or y x with ⟨g1, g⟩ | ⟨g1, g⟩ <;> rw [h, g]
  · have := sLess_trans h1 g1; rw [sLess_irrefl] at this; cases this
  · rcases sLess_tri x y with h' | h' | h'
    · rw [h1] at h'; cases h'
    · exact h'
    · rw [g1] at h'; cases h'
theorem meet_comm (a b : Rng) : emptyB (meetR a b) = emptyB (meetR b a) := by
  rw [empty_lo, empty_lo, meet_in, meet_in, meet_lo, meet_lo, maxS_comm a.lo b.lo, Bool.and_comm]
theorem point_in (k : ByteArray) : inB ⟨k, k, false⟩ k = true := by rw [inB_eq, sLess_irrefl]; rfl
theorem bytesLess_snoc : ∀ (k : List UInt8) (l : List UInt8), l ≠ [] → Op.bytesLess k (k ++ l) = true
  | [], [], h => absurd rfl h
  | [], _ :: _, _ => rfl
  | a :: k, l, h => by simp [Op.bytesLess, bytesLess_snoc k l h]
theorem sLess_snoc (k s : ByteArray) (h : s.data.toList ≠ []) : sLess k (k ++ s) = true := by
  unfold sLess
  rw [Lib.toList_data, Lib.toList_data]
  have : (k ++ s).data.toList = k.data.toList ++ s.data.toList := by
    obtain ⟨k⟩ := k; obtain ⟨s⟩ := s
    simp [ByteArray.append_eq, ByteArray.data_append]
  rw [this]
  exact bytesLess_snoc _ _ h
theorem point_out (k s : ByteArray) (h : s.data.toList ≠ []) : inB ⟨k, k, false⟩ (k ++ s) = false := by
  rw [inB_eq]
  simp [sLess_snoc k s h]
theorem in_covers (a : Rng) (k : ByteArray) (h : inB a k = true) : coversB a ⟨k, k, false⟩ = true := by
  obtain ⟨lo, hi, e⟩ := a
  unfold coversB
  rw [inB_eq] at h
  cases e <;> simp_all
theorem helly (a b c : Rng) : ((!emptyB (meetR a b) && !emptyB (meetR b c)) && !emptyB (meetR a c)) = ((inB a (maxS (maxS a.lo b.lo) c.lo) && inB b (maxS (maxS a.lo b.lo) c.lo)) && inB c (maxS (maxS a.lo b.lo) c.lo)) := by
  obtain ⟨lo, hi, e⟩ := a
  obtain ⟨lo2, hi2, e2⟩ := b
  obtain ⟨lo3, hi3, e3⟩ := c
  simp only [empty_lo, meet_in, meet_lo, Bool.not_not]
  cases e <;> cases e2 <;> cases e3 <;>
  simp only [inB_eq, Bool.and_true, Bool.true_or, Bool.false_or,
    rank_sLess (L := [lo, hi, lo2, hi2, lo3, hi3]), less_max, max_less, min_less, List.mem_cons, true_or, or_true] <;>
  (rw [Bool.eq_iff_iff]; simp only [Bool.and_eq_true, Bool.not_eq_true', decide_eq_false_iff_not, Bool.or_eq_false_iff, Bool.and_eq_false_iff] <;> omega)
theorem helly2 (a b c : Rng) : emptyB (meetR a (meetR b c)) = !((inB a (maxS (maxS a.lo b.lo) c.lo) && inB b (maxS (maxS a.lo b.lo) c.lo)) && inB c (maxS (maxS a.lo b.lo) c.lo)) := by
  obtain ⟨lo, hi, e⟩ := a
  obtain ⟨lo2, hi2, e2⟩ := b
  obtain ⟨lo3, hi3, e3⟩ := c
  simp only [empty_lo, meet_in, meet_lo, Bool.not_not]
  cases e <;> cases e2 <;> cases e3 <;>
  simp only [inB_eq, Bool.and_true, Bool.true_or, Bool.false_or,
    rank_sLess (L := [lo, hi, lo2, hi2, lo3, hi3]), less_max, max_less, min_less, List.mem_cons, true_or, or_true] <;>
  (rw [Bool.eq_iff_iff]; simp only [Bool.and_eq_true, Bool.not_eq_true', decide_eq_false_iff_not, Bool.not_eq_true, Bool.not_eq_false, Bool.and_eq_false_iff, Bool.not_eq_false', decide_eq_true_eq, Bool.or_eq_false_iff, Bool.or_eq_true] <;> omega)
end Go.Proofs.Ytljokmmgkecjbaa
