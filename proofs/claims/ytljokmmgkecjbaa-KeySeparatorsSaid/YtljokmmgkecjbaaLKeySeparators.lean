/- For every input the law KeySeparators returns true, and each argument reads as before; no further condition. -/
import Derived.Test.YtljokmmgkecjbaaKc
import Derived.Test.YtljokmmgkecjbaaKn
import Derived.Test.YtljokmmgkecjbaaRows
import Derived.Test.YtljokmmgkecjbaaKv
set_option linter.unusedVariables false
set_option linter.unusedSimpArgs false
set_option maxRecDepth 100000
namespace Go.Proofs.Ytljokmmgkecjbaa
open Go Go.AM
set_option maxHeartbeats 4000000 in
theorem keySeparators_ok (a b : ByteArray) (ha : a.size ≤ 140737488351232) (hb : b.size ≤ 140737488351232) {mm K} (hk : K (.sc (.bool true)) mm) : TripleF Try.prog 4 [.sc (.str a), .sc (.str b)] mm K := by
  have f1 : Op.bytesLess a.toList b.toList = true → Op.bytesLess a.toList (sepS a b).toList = true ∧ (Op.bytesLess (sepS a b).toList b.toList || (sepS a b).toList == b.toList) = true ∧ ((sepS a b).size : Int) = IntKind.i64.wrap (front a b + 1) := by
    intro h
    have h : sLess a b = true := h
    obtain ⟨h1, h2, h3⟩ := sep_less h
    have h4 := front_lt h
    refine ⟨h1, ?_, ?_⟩
    · have := sEq_or (sepS a b) b
      rw [h2] at this; exact this
    · rw [h3, wrapI (by omega) (by omega)]; rfl
  have f2 : Op.bytesLess a.toList b.toList = false → ((sepS a b).toList == (⟨#[]⟩ : ByteArray).toList) = true := fun h => by
    rw [sep_empty h]; simp [strE]
  have f3 : a.size.le 281474976710656 := (by omega : a.size ≤ 281474976710656)
  have f4 : a.size ≤ 281474976710656 ∧ b.size ≤ 281474976710656 := ⟨by omega, by omega⟩
  have f5 : (a.size + 1).le 9223372036854775807 := (by omega : a.size + 1 ≤ 9223372036854775807)
  have f6 : (a.size + (⟨#[0]⟩ : ByteArray).size).le 9223372036854775807 := f5
  refine pure_of_awp (R := fun r' => r' = .sc (.bool true)) E6ok Try.func4 rfl (by kernel_rfl) rfl ?_ (fun r h => h ▸ hk)
  clear hk
  repeat' ((conv => whnf) <;> first | exact trivial | refine Br.mk (fun _ => ?_) (fun _ => ?_) | refine Cast.mk _ _ ?_ | refine Need.mk (by kernel_rfl) ?_ | refine Need.mk ?_ ?_)
  all_goals (try (conv => whnf))
  all_goals (first | exact f3 | exact f4 | exact f5 | exact f6 | (exfalso; simp_all; done) | (refine congrArg (fun b => AVal.sc (.bool b)) ?_; simp_all; done))
end Go.Proofs.Ytljokmmgkecjbaa

namespace Go.Proofs.Ytljokmmgkecjbaa.keySeparators
open Go Go.AM Go.ChangeShapes Go.WideShapes Go.ChangeAt Go.RowKit
open Go.ChangeMaps (open_string shut_string)
theorem own : ownKnob Try.prog.godebug = none := by kernel_rfl
theorem laidOut : laidOutB Try.prog = true := by kernel_rfl
theorem lifted (os : Os) (started : os.Started) (H : Type) (enc : TypeId × Value → H) :
    ReturnsInHanded {} Try.checked os 4 .any (Rows.keySeparatorsSpec.pre6 enc Try.prog Try.f4 Rows.keySeparatorsRow.domain false) (Rows.keySeparatorsSpec.post enc Try.prog Try.f4 false true false false) := by
  refine returnsInHanded_of_change_sized (C := Try.checked) own started (by kernel_rfl) Try.func4
    (ChangeSpec.witness6 (enc := enc) (C := Try.checked) false ⟨#[], #[.string ByteArray.empty, .string ByteArray.empty], []⟩ 8 (by kernel_rfl) (by kernel_rfl) (by kernel_rfl) (by kernel_rfl)) ?_
  intro W base args ds gs before hval0 hW hcnd hsz0 _
  have hsz : (DataW.weightsEach Try.prog (Try.f4.params.toList ++ Rows.keySeparatorsSpec.plain.varTypes Try.prog) (ds ++ gs)).all (· ≤ reachBytes) = true := hsz0
  have hval : ∀ (j : Nat) t v, Try.f4.params[j]? = some t → args[j]? = some v → Value.okWide Try.prog W .any base t v := hval0
  have hW' := hW
  obtain ⟨p, q, hA0, hV, rfl, hfz, hnd⟩ := hW
  have hA : DataW.TrodAll enc Try.prog W 0 (fun _ => true) true Try.f4.params.toList args.toList ds p := hA0
  rw [Try.params4] at hA hval hsz
  obtain ⟨v0, vs0, d0, ds0, p0, q0, hargs, rfl, rfl, h0, r0⟩ := trodAll_cons hA
  obtain ⟨v1, vs1, d1, ds1, p1, q1, rfl, rfl, rfl, h1, r1⟩ := trodAll_cons r0
  obtain ⟨rfl, rfl, rfl⟩ := trodAll_nil r1
  obtain rfl : args = #[v0, v1] := by cases args; simp_all
  obtain ⟨rfl, rfl⟩ := trodVars_none hV
  obtain ⟨a0, rfl, rfl, rfl, y0⟩ := open_string Try.underlying9 (hval 0 9 v0 rfl rfl) h0
  have w0 : a0.size ≤ 140737488351232 := by
    have z := sized_string hsz (j := 0) (t := 9) rfl rfl
    rw [Array.length_toList] at z
    exact z
  obtain ⟨a1, rfl, rfl, rfl, y1⟩ := open_string Try.underlying9 (hval 1 9 v1 rfl rfl) h1
  have w1 : a1.size ≤ 140737488351232 := by
    have z := sized_string hsz (j := 1) (t := 9) rfl rfl
    rw [Array.length_toList] at z
    exact z
  clear hA0 hval0 hsz0 hsz
  refine (calls_below (keySeparators_ok a0 a1 w0 w1 rfl) ⟨_, _, rfl, rfl, ⟨_, _, rfl, rfl, rfl⟩⟩ W).mono fun e W' ⟨he, bel⟩ => ?_
  subst he
  exact ⟨_, rfl, _, _, _, [], _, [], hW', trodAll_mk1 (shut_bool Try.underlying4 _), (trodAll_cons_mk (shut_string Try.underlying9 y0) (trodAll_cons_mk (shut_string Try.underlying9 y1) trodAll_mk0)), rfl, bel.frame _, fun h => by cases h⟩
theorem over : Rows.keySeparatorsRow.holds Try.pinned (OpenSpec.ofChange Rows.keySeparatorsSpec) :=
  OpenClaim.holds_of_wide 4 Try.f4 rfl rfl rfl rfl rfl rfl rfl ⟨rfl, rfl, rfl, rfl, rfl⟩ rfl rfl rfl rfl rfl (by kernel_rfl) Try.func4 (by kernel_rfl)
    (of_decide_eq_true (by kernel_rfl)) (by unfold Func.isWrapper; first | (rw [if_pos (by decide +kernel)]; kernel_rfl) | (rw [if_neg (by decide +kernel)]; exact ⟨rfl, rfl⟩))
    (fun os started H enc _ => lifted os started H enc)
theorem proved : Rows.KeySeparatorsSaid := over
end Go.Proofs.Ytljokmmgkecjbaa.keySeparators
namespace Go.Proofs.Ytljokmmgkecjbaa
theorem keySeparators_holds : Rows.KeySeparatorsSaid := keySeparators.proved
#print axioms keySeparators_holds
end Go.Proofs.Ytljokmmgkecjbaa
