/- For every input the law KeyHelly returns true, and each argument reads as before; no further condition. -/
import Derived.Test.YtljokmmgkecjbaaKc
import Derived.Test.YtljokmmgkecjbaaKp
import Derived.Test.YtljokmmgkecjbaaRows
import Derived.Test.YtljokmmgkecjbaaKv
set_option linter.unusedVariables false
set_option linter.unusedSimpArgs false
set_option maxRecDepth 100000
namespace Go.Proofs.Ytljokmmgkecjbaa
open Go Go.AM
set_option maxHeartbeats 4000000 in
theorem keyHelly_ok (a b c : Rng) {m K} (hk : K (.sc (.bool true)) m) : TripleF Try.prog 5 [a.A, b.A, c.A] m K := by
  obtain ⟨lo, hi, e⟩ := a
  obtain ⟨lo2, hi2, e2⟩ := b
  obtain ⟨lo3, hi3, e3⟩ := c
  have f1 := helly ⟨lo, hi, e⟩ ⟨lo2, hi2, e2⟩ ⟨lo3, hi3, e3⟩
  have f2 := helly2 ⟨lo, hi, e⟩ ⟨lo2, hi2, e2⟩ ⟨lo3, hi3, e3⟩
  refine pure_of_awp (R := fun r' => r' = .sc (.bool true)) E6ok Try.func5 rfl (by kernel_rfl) rfl ?_ (fun r h => h ▸ hk)
  clear hk
  simp only [Rng.A]
  repeat' ((conv => whnf) <;> first | exact trivial | refine Br.mk (fun _ => ?_) (fun _ => ?_) | refine Cast.mk _ _ ?_ | refine Need.mk (by kernel_rfl) ?_ | refine Need.mk ?_ ?_)
  all_goals (try (conv => whnf))
  all_goals (first | exact trivial | (exfalso; simp_all; done) | skip)
  all_goals (first | (refine congrArg (fun b => AVal.sc (.bool b)) ?_; simp_all; done) | skip)
end Go.Proofs.Ytljokmmgkecjbaa

namespace Go.Proofs.Ytljokmmgkecjbaa.keyHelly
open Go Go.AM Go.ChangeShapes Go.WideShapes Go.ChangeAt Go.RowKit
open Go.ChangeMaps (open_string shut_string)
theorem own : ownKnob Try.prog.godebug = none := by kernel_rfl
theorem laidOut : laidOutB Try.prog = true := by kernel_rfl
theorem lifted (os : Os) (started : os.Started) (H : Type) (enc : TypeId × Value → H) :
    ReturnsInHanded {} Try.checked os 5 .any (Rows.keyHellySpec.pre6 enc Try.prog Try.f5 Rows.keyHellyRow.domain false) (Rows.keyHellySpec.post enc Try.prog Try.f5 false true false false) := by
  refine returnsInHanded_of_change_sized (C := Try.checked) own started (by kernel_rfl) Try.func5
    (ChangeSpec.witness6 (enc := enc) (C := Try.checked) false ⟨#[], #[.agg #[.string ByteArray.empty, .string ByteArray.empty, .bool false], .agg #[.string ByteArray.empty, .string ByteArray.empty, .bool false], .agg #[.string ByteArray.empty, .string ByteArray.empty, .bool false]], []⟩ 8 (by kernel_rfl) (by kernel_rfl) (by kernel_rfl) (by kernel_rfl)) ?_
  intro W base args ds gs before hval0 hW hcnd hsz0 _
  have hsz : (DataW.weightsEach Try.prog (Try.f5.params.toList ++ Rows.keyHellySpec.plain.varTypes Try.prog) (ds ++ gs)).all (· ≤ reachBytes) = true := hsz0
  have hval : ∀ (j : Nat) t v, Try.f5.params[j]? = some t → args[j]? = some v → Value.okWide Try.prog W .any base t v := hval0
  have hW' := hW
  obtain ⟨p, q, hA0, hV, rfl, hfz, hnd⟩ := hW
  have hA : DataW.TrodAll enc Try.prog W 0 (fun _ => true) true Try.f5.params.toList args.toList ds p := hA0
  rw [Try.params5] at hA hval hsz
  obtain ⟨v0, vs0, d0, ds0, p0, q0, hargs, rfl, rfl, h0, r0⟩ := trodAll_cons hA
  obtain ⟨v1, vs1, d1, ds1, p1, q1, rfl, rfl, rfl, h1, r1⟩ := trodAll_cons r0
  obtain ⟨v2, vs2, d2, ds2, p2, q2, rfl, rfl, rfl, h2, r2⟩ := trodAll_cons r1
  obtain ⟨rfl, rfl, rfl⟩ := trodAll_nil r2
  obtain rfl : args = #[v0, v1, v2] := by cases args; simp_all
  obtain ⟨rfl, rfl⟩ := trodVars_none hV
  have k0 := h0
  have lt0 : ∀ x ∈ p0, x.block < W.heap.size := by obtain ⟨m, hm⟩ := k0; exact DataW.trod_lt m _ _ _ hm
  obtain ⟨a0, rfl⟩ := open_rng (hval 0 33 v0 rfl rfl) h0
  have k1 := h1
  have lt1 : ∀ x ∈ p1, x.block < W.heap.size := by obtain ⟨m, hm⟩ := k1; exact DataW.trod_lt m _ _ _ hm
  obtain ⟨a1, rfl⟩ := open_rng (hval 1 33 v1 rfl rfl) h1
  have k2 := h2
  have lt2 : ∀ x ∈ p2, x.block < W.heap.size := by obtain ⟨m, hm⟩ := k2; exact DataW.trod_lt m _ _ _ hm
  obtain ⟨a2, rfl⟩ := open_rng (hval 2 33 v2 rfl rfl) h2
  clear hA0 hval0 hsz0 hsz
  refine (calls_below (keyHelly_ok a0 a1 a2 rfl) ⟨_, _, rfl, Rng.rep [] a0, ⟨_, _, rfl, Rng.rep [] a1, ⟨_, _, rfl, Rng.rep [] a2, rfl⟩⟩⟩ W).mono fun e W' ⟨he, bel⟩ => ?_
  subst he
  exact ⟨_, rfl, _, _, _, [], _, [], hW', trodAll_mk1 (shut_bool Try.underlying4 _), (trodAll_cons_mk (Below.trod laidOut (by kernel_rfl) (of_decide_eq_true (by kernel_rfl)) k0 bel lt0) (trodAll_cons_mk (Below.trod laidOut (by kernel_rfl) (of_decide_eq_true (by kernel_rfl)) k1 bel lt1) (trodAll_cons_mk (Below.trod laidOut (by kernel_rfl) (of_decide_eq_true (by kernel_rfl)) k2 bel lt2) trodAll_mk0))), rfl, bel.frame _, fun h => by cases h⟩
theorem over : Rows.keyHellyRow.holds Try.pinned (OpenSpec.ofChange Rows.keyHellySpec) :=
  OpenClaim.holds_of_wide 5 Try.f5 rfl rfl rfl rfl rfl rfl rfl ⟨rfl, rfl, rfl, rfl, rfl⟩ rfl rfl rfl rfl rfl (by kernel_rfl) Try.func5 (by kernel_rfl)
    (of_decide_eq_true (by kernel_rfl)) (by unfold Func.isWrapper; first | (rw [if_pos (by decide +kernel)]; kernel_rfl) | (rw [if_neg (by decide +kernel)]; exact ⟨rfl, rfl⟩))
    (fun os started H enc _ => lifted os started H enc)
theorem proved : Rows.KeyHellySaid := over
end Go.Proofs.Ytljokmmgkecjbaa.keyHelly
namespace Go.Proofs.Ytljokmmgkecjbaa
theorem keyHelly_holds : Rows.KeyHellySaid := keyHelly.proved
#print axioms keyHelly_holds
end Go.Proofs.Ytljokmmgkecjbaa
