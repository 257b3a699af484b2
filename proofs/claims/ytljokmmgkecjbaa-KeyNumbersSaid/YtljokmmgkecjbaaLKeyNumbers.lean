/- For every input the law KeyNumbers returns true, and each argument reads as before; no further condition. -/
import Derived.Test.YtljokmmgkecjbaaKc
import Derived.Test.YtljokmmgkecjbaaKn
import Derived.Test.YtljokmmgkecjbaaRows
import Derived.Test.YtljokmmgkecjbaaKv
set_option linter.unusedVariables false
set_option linter.unusedSimpArgs false
set_option maxRecDepth 100000
namespace Go.Proofs.Ytljokmmgkecjbaa
open Go Go.AM
set_option maxHeartbeats 4000000 in
theorem keyNumbers_ok (n m : Int) (s : ByteArray) {mm K} (hk : K (.sc (.bool true)) mm) : TripleF Try.prog 3 [.sc (.int false .i64 n), .sc (.int false .i64 m), .sc (.str s)] mm K := by
  have f1 : (numS s).2 = true → (slotS (numS s).1).toList = s.toList := fun h => by rw [slot_inv h]
  have f2 : ((slotS n).toList == (⟨#[]⟩ : ByteArray).toList) = false → ((slotS m).toList == (⟨#[]⟩ : ByteArray).toList) = false →
      Op.bytesLess (slotS n).toList (slotS m).toList = decide (n < m) ∧ ((slotS n).toList == (slotS m).toList) = (n == m) := by
    intro h1 h2
    have hn : okN n := Classical.byContradiction fun k => by rw [slot_none k] at h1; simp [strE] at h1
    have hm : okN m := Classical.byContradiction fun k => by rw [slot_none k] at h2; simp [strE] at h2
    exact ⟨slot_less hn hm, slot_eq hn hm⟩
  refine pure_of_awp (R := fun r' => r' = .sc (.bool true)) E6ok Try.func3 rfl (by kernel_rfl) rfl ?_ (fun r h => h ▸ hk)
  clear hk
  repeat' ((conv => whnf) <;> first | exact trivial | refine Br.mk (fun _ => ?_) (fun _ => ?_) | refine Cast.mk _ _ ?_ | refine Need.mk (by kernel_rfl) ?_ | refine Need.mk ?_ ?_)
  all_goals (try (conv => whnf))
  all_goals (first | (exfalso; simp_all; done) | (refine congrArg (fun b => AVal.sc (.bool b)) ?_; simp_all; done))
end Go.Proofs.Ytljokmmgkecjbaa

namespace Go.Proofs.Ytljokmmgkecjbaa.keyNumbers
open Go Go.AM Go.ChangeShapes Go.WideShapes Go.ChangeAt Go.RowKit
open Go.ChangeMaps (open_string shut_string)
theorem own : ownKnob Try.prog.godebug = none := by kernel_rfl
theorem laidOut : laidOutB Try.prog = true := by kernel_rfl
theorem lifted (os : Os) (started : os.Started) (H : Type) (enc : TypeId × Value → H) :
    ReturnsInHanded {} Try.checked os 3 .any (Rows.keyNumbersSpec.pre6 enc Try.prog Try.f3 Rows.keyNumbersRow.domain false) (Rows.keyNumbersSpec.post enc Try.prog Try.f3 false true false false) := by
  refine returnsInHanded_of_change_sized (C := Try.checked) own started (by kernel_rfl) Try.func3
    (ChangeSpec.witness6 (enc := enc) (C := Try.checked) false ⟨#[], #[.int .i64 0, .int .i64 0, .string ByteArray.empty], []⟩ 8 (by kernel_rfl) (by kernel_rfl) (by kernel_rfl) (by kernel_rfl)) ?_
  intro W base args ds gs before hval0 hW hcnd hsz0 _
  have hsz : (DataW.weightsEach Try.prog (Try.f3.params.toList ++ Rows.keyNumbersSpec.plain.varTypes Try.prog) (ds ++ gs)).all (· ≤ reachBytes) = true := hsz0
  have hval : ∀ (j : Nat) t v, Try.f3.params[j]? = some t → args[j]? = some v → Value.okWide Try.prog W .any base t v := hval0
  have hW' := hW
  obtain ⟨p, q, hA0, hV, rfl, hfz, hnd⟩ := hW
  have hA : DataW.TrodAll enc Try.prog W 0 (fun _ => true) true Try.f3.params.toList args.toList ds p := hA0
  rw [Try.params3] at hA hval hsz
  obtain ⟨v0, vs0, d0, ds0, p0, q0, hargs, rfl, rfl, h0, r0⟩ := trodAll_cons hA
  obtain ⟨v1, vs1, d1, ds1, p1, q1, rfl, rfl, rfl, h1, r1⟩ := trodAll_cons r0
  obtain ⟨v2, vs2, d2, ds2, p2, q2, rfl, rfl, rfl, h2, r2⟩ := trodAll_cons r1
  obtain ⟨rfl, rfl, rfl⟩ := trodAll_nil r2
  obtain rfl : args = #[v0, v1, v2] := by cases args; simp_all
  obtain ⟨rfl, rfl⟩ := trodVars_none hV
  obtain ⟨a0, rfl, rfl, rfl, w0⟩ := open_int Try.underlying3 (hval 0 3 v0 rfl rfl) h0
  obtain ⟨a1, rfl, rfl, rfl, w1⟩ := open_int Try.underlying3 (hval 1 3 v1 rfl rfl) h1
  obtain ⟨a2, rfl, rfl, rfl, y2⟩ := open_string Try.underlying9 (hval 2 9 v2 rfl rfl) h2
  have w2 : a2.size ≤ 140737488351232 := by
    have z := sized_string hsz (j := 2) (t := 9) rfl rfl
    rw [Array.length_toList] at z
    exact z
  clear hA0 hval0 hsz0 hsz
  refine (calls_below (keyNumbers_ok a0 a1 a2 rfl) ⟨_, _, rfl, rfl, ⟨_, _, rfl, rfl, ⟨_, _, rfl, rfl, rfl⟩⟩⟩ W).mono fun e W' ⟨he, bel⟩ => ?_
  subst he
  exact ⟨_, rfl, _, _, _, [], _, [], hW', trodAll_mk1 (shut_bool Try.underlying4 _), (trodAll_cons_mk (shut_int Try.underlying3 w0) (trodAll_cons_mk (shut_int Try.underlying3 w1) (trodAll_cons_mk (shut_string Try.underlying9 y2) trodAll_mk0))), rfl, bel.frame _, fun h => by cases h⟩
theorem over : Rows.keyNumbersRow.holds Try.pinned (OpenSpec.ofChange Rows.keyNumbersSpec) :=
  OpenClaim.holds_of_wide 3 Try.f3 rfl rfl rfl rfl rfl rfl rfl ⟨rfl, rfl, rfl, rfl, rfl⟩ rfl rfl rfl rfl rfl (by kernel_rfl) Try.func3 (by kernel_rfl)
    (of_decide_eq_true (by kernel_rfl)) (by unfold Func.isWrapper; first | (rw [if_pos (by decide +kernel)]; kernel_rfl) | (rw [if_neg (by decide +kernel)]; exact ⟨rfl, rfl⟩))
    (fun os started H enc _ => lifted os started H enc)
theorem proved : Rows.KeyNumbersSaid := over
end Go.Proofs.Ytljokmmgkecjbaa.keyNumbers
namespace Go.Proofs.Ytljokmmgkecjbaa
theorem keyNumbers_holds : Rows.KeyNumbersSaid := keyNumbers.proved
#print axioms keyNumbers_holds
end Go.Proofs.Ytljokmmgkecjbaa
