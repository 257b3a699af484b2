/- Lemmas for the claim's theorem. -/
import Derived.Test.YtljokmmgkecjbaaKa
import Derived.Test.YtljokmmgkecjbaaKb
set_option linter.unusedVariables false
set_option linter.unusedSimpArgs false
namespace Go.Proofs.Ytljokmmgkecjbaa
open Go Go.AM
/-! plain laws of numbers written as eight bytes -/
theorem beN_from : ∀ (l : List UInt8) (n : Nat), l.foldl (fun n c => n * 256 + c.toNat) n = n * 256 ^ l.length + l.foldl (fun n c => n * 256 + c.toNat) 0
  | [], n => by simp
  | d :: l, n => by
    simp only [List.foldl_cons]
    rw [beN_from l (n * 256 + d.toNat), beN_from l (0 * 256 + d.toNat), List.length_cons, Nat.pow_succ, Nat.zero_mul, Nat.zero_add, Nat.add_mul, Nat.mul_assoc, Nat.mul_comm 256, Nat.add_assoc]
theorem beN_cons (c : UInt8) (l : List UInt8) : beN (c :: l) = c.toNat * 256 ^ l.length + beN l := by
  unfold beN
  simp only [List.foldl_cons]
  rw [beN_from l (0 * 256 + c.toNat), Nat.zero_mul, Nat.zero_add]
theorem lex_beN : ∀ (a b : List UInt8), a.length = b.length → Op.bytesLess a b = decide (beN a < beN b)
  | [], [], _ => by simp [Op.bytesLess]
  | [], _ :: _, h => by simp at h
  | _ :: _, [], h => by simp at h
  | x :: a, y :: b, h => by
    simp only [List.length_cons, Nat.add_right_cancel_iff] at h
    have ih := lex_beN a b h
    have h1 := beN_lt a
    have h2 := beN_lt b
    rw [beN_cons, beN_cons, h]
    rw [h] at h1
    simp only [Op.bytesLess, ih]
    have hp : 0 < 256 ^ b.length := Nat.pow_pos (by decide)
    generalize 256 ^ b.length = p at *
    rw [Bool.eq_iff_iff]
    simp only [Bool.or_eq_true, decide_eq_true_eq, Bool.and_eq_true, beq_iff_eq, UInt8.lt_iff_toNat_lt, ← UInt8.toNat_inj]
    generalize x.toNat = u
    generalize y.toNat = v
    constructor
    · rintro (g | ⟨rfl, g⟩)
      · have : (u + 1) * p ≤ v * p := Nat.mul_le_mul_right p g
        rw [Nat.add_mul] at this; omega
      · omega
    · intro g
      rcases Nat.lt_trichotomy u v with k | k | k
      · exact .inl k
      · subst k; exact .inr ⟨rfl, by omega⟩
      · have : (v + 1) * p ≤ u * p := Nat.mul_le_mul_right p k
        rw [Nat.add_mul] at this; omega
theorem beN_inj : ∀ (a b : List UInt8), a.length = b.length → beN a = beN b → a = b
  | [], [], _, _ => rfl
  | [], _ :: _, h, _ => by simp at h
  | _ :: _, [], h, _ => by simp at h
  | x :: a, y :: b, h, g => by
    simp only [List.length_cons, Nat.add_right_cancel_iff] at h
    have h1 := beN_lt a
    have h2 := beN_lt b
    rw [beN_cons, beN_cons, h] at g
    rw [h] at h1
    have hp : 0 < 256 ^ b.length := Nat.pow_pos (by decide)
    generalize 256 ^ b.length = p at *
    have hxy : x.toNat = y.toNat := by
      rcases Nat.lt_trichotomy x.toNat y.toNat with k | k | k
      · have : (x.toNat + 1) * p ≤ y.toNat * p := Nat.mul_le_mul_right p k
        rw [Nat.add_mul] at this; omega
      · exact k
      · have : (y.toNat + 1) * p ≤ x.toNat * p := Nat.mul_le_mul_right p k
        rw [Nat.add_mul] at this; omega
    rw [hxy] at g
    rw [UInt8.toNat_inj.1 hxy, beN_inj a b h (by omega)]
def okN (n : Int) : Prop := 0 ≤ n ∧ n ≤ 1099511627776
theorem slot_list (n : Int) (h : okN n) : (slotS n).data.toList.length = 8 ∧ (beN (slotS n).data.toList : Int) = n := by
  obtain ⟨h0, h1⟩ := h
  rw [slotS, if_pos ⟨h0, h1⟩]
  refine ⟨by simp [strOfNums, bytes8], ?_⟩
  have e : ∀ x : Int, 0 ≤ x → ((UInt8.ofNat (x % 256).toNat).toNat : Int) = x % 256 := fun x hx => by
    rw [UInt8.toNat_ofNat']
    omega
  simp only [strOfNums, bytes8, beN, List.map_cons, List.map_nil, List.foldl_cons, List.foldl_nil]
  have e7 := e (n / 72057594037927936) (by omega)
  have e6 := e (n / 281474976710656) (by omega)
  have e5 := e (n / 1099511627776) (by omega)
  have e4 := e (n / 4294967296) (by omega)
  have e3 := e (n / 16777216) (by omega)
  have e2 := e (n / 65536) (by omega)
  have e1 := e (n / 256) (by omega)
  have e0 := e (n / 1) (by omega)
  generalize (UInt8.ofNat (n / 72057594037927936 % 256).toNat).toNat = d7 at *
  generalize (UInt8.ofNat (n / 281474976710656 % 256).toNat).toNat = d6 at *
  generalize (UInt8.ofNat (n / 1099511627776 % 256).toNat).toNat = d5 at *
  generalize (UInt8.ofNat (n / 4294967296 % 256).toNat).toNat = d4 at *
  generalize (UInt8.ofNat (n / 16777216 % 256).toNat).toNat = d3 at *
  generalize (UInt8.ofNat (n / 65536 % 256).toNat).toNat = d2 at *
  generalize (UInt8.ofNat (n / 256 % 256).toNat).toNat = d1 at *
  generalize (UInt8.ofNat (n / 1 % 256).toNat).toNat = d0 at *
  clear e
  have q1 : n / 65536 = n / 256 / 256 := by omega
  have q2 : n / 16777216 = n / 65536 / 256 := by omega
  have q3 : n / 4294967296 = n / 16777216 / 256 := by omega
  have q4 : n / 1099511627776 = n / 4294967296 / 256 := by omega
  have q5 : n / 281474976710656 = 0 := by omega
  have q6 : n / 72057594037927936 = 0 := by omega
  generalize n / 1099511627776 = a5 at *
  generalize n / 4294967296 = a4 at *
  generalize n / 16777216 = a3 at *
  generalize n / 65536 = a2 at *
  rw [q6] at e7
  rw [q5] at e6
  omega
theorem slot_none {n : Int} (h : ¬ okN n) : slotS n = strE := if_neg h
theorem slot_some {n : Int} (h : ¬ slotS n = strE) : okN n := Classical.byContradiction fun k => h (slot_none k)
theorem slot_inv {s : ByteArray} (h : (numS s).2 = true) : slotS (numS s).1 = s := by
  unfold numS at h ⊢
  split at h
  · rename_i hs
    have hok : okN (beN s.data.toList) := ⟨by omega, by omega⟩
    obtain ⟨h1, h2⟩ := slot_list _ hok
    have h3 : s.data.toList.length = 8 := by rw [size_list]; exact hs.1
    rw [if_pos hs]
    have := beN_inj _ _ (h1.trans h3.symm) (by omega)
    exact ByteArray.ext (Array.toList_inj.1 this)
  · cases h
theorem slot_less {n m : Int} (hn : okN n) (hm : okN m) : sLess (slotS n) (slotS m) = decide (n < m) := by
  obtain ⟨h1, h2⟩ := slot_list n hn
  obtain ⟨g1, g2⟩ := slot_list m hm
  unfold sLess
  rw [Lib.toList_data, Lib.toList_data, lex_beN _ _ (h1.trans g1.symm)]
  rw [Bool.eq_iff_iff, decide_eq_true_iff, decide_eq_true_iff]
  omega
theorem slot_eq {n m : Int} (hn : okN n) (hm : okN m) : sEq (slotS n) (slotS m) = (n == m) := by
  obtain ⟨h1, h2⟩ := slot_list n hn
  obtain ⟨g1, g2⟩ := slot_list m hm
  rw [Bool.eq_iff_iff, sEq_iff, beq_iff_eq]
  constructor
  · intro h
    rw [h] at h2; omega
  · rintro rfl; rfl
/-! separators -/
theorem sep_less {a b : ByteArray} (h : sLess a b = true) : sLess a (sepS a b) = true ∧ sLess b (sepS a b) = false ∧ (sepS a b).size = front a b + 1 := by
  rw [sepS, if_pos h]
  have h1 := front_lt h
  refine ⟨?_, ?_, ?_⟩
  · rw [sLess_take, h]; simp
  · cases k : sLess b (b.extract 0 (front a b + 1)) with
    | false => rfl
    | true =>
      rw [sLess_take, sLess_irrefl] at k; cases k
  · rw [ByteArray.size_extract]; omega
theorem sep_empty {a b : ByteArray} (h : sLess a b = false) : sepS a b = strE := by rw [sepS, if_neg (by rw [h]; simp)]
end Go.Proofs.Ytljokmmgkecjbaa
