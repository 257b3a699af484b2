/- For every input the law KeyDescriptions returns true, and each argument reads as before; no further condition. -/
import Derived.Test.YtljokmmgkecjbaaKc
import Derived.Test.YtljokmmgkecjbaaRows
import Derived.Test.YtljokmmgkecjbaaKv
set_option linter.unusedVariables false
set_option linter.unusedSimpArgs false
set_option maxRecDepth 100000
namespace Go.Proofs.Ytljokmmgkecjbaa
open Go Go.AM

theorem keyDescriptions_ok (d : DS) (s : ByteArray) {m K} (hk : K (.sc (.bool true)) m) : TripleF Try.prog 6 [d.A, .sc (.str s)] m K := by
  obtain ⟨id, org, fmt, len, blk, kat, kln, itv, area, fi, fa, base, aat, aln, uniq, cls, vol, own, cre, exp, arch⟩ := d
  refine pure_of_awp (R := fun r' => r' = .sc (.bool true)) E6ok Try.func6 rfl (by kernel_rfl) rfl ?_ (fun r h => h ▸ hk)
  clear hk
  simp only [DS.A]
  repeat' ((conv => whnf) <;> first | exact trivial | refine Br.mk (fun _ => ?_) (fun _ => ?_) | refine Cast.mk _ _ ?_ | refine Need.mk (by kernel_rfl) ?_ | refine Need.mk ?_ ?_)
  all_goals (try (conv => whnf))
  all_goals (first | exact trivial | (exfalso; simp_all [sEq_self]; done) | skip)
  all_goals (first | (refine congrArg (fun b => AVal.sc (.bool b)) ?_; simp_all [sEq_self]; done) | skip)
end Go.Proofs.Ytljokmmgkecjbaa

namespace Go.Proofs.Ytljokmmgkecjbaa.keyDescriptions
open Go Go.AM Go.ChangeShapes Go.WideShapes Go.ChangeAt Go.RowKit
open Go.ChangeMaps (open_string shut_string)
theorem own : ownKnob Try.prog.godebug = none := by kernel_rfl
theorem laidOut : laidOutB Try.prog = true := by kernel_rfl
theorem lifted (os : Os) (started : os.Started) (H : Type) (enc : TypeId × Value → H) :
    ReturnsInHanded {} Try.checked os 6 .any (Rows.keyDescriptionsSpec.pre6 enc Try.prog Try.f6 Rows.keyDescriptionsRow.domain false) (Rows.keyDescriptionsSpec.post enc Try.prog Try.f6 false true false false) := by
  refine returnsInHanded_of_change_sized (C := Try.checked) own started (by kernel_rfl) Try.func6
    (ChangeSpec.witness6 (enc := enc) (C := Try.checked) false ⟨#[], #[.agg #[.int .i64 0, .int .i64 0, .int .i64 0, .int .i64 0, .int .i64 0, .int .i64 0, .int .i64 0, .int .i64 0, .int .i64 0, .int .i64 0, .int .i64 0, .int .i64 0, .int .i64 0, .int .i64 0, .bool false, .int .i64 0, .string ByteArray.empty, .string ByteArray.empty, .int .i64 0, .int .i64 0, .bool false], .string ByteArray.empty], []⟩ 8 (by kernel_rfl) (by kernel_rfl) (by kernel_rfl) (by kernel_rfl)) ?_
  intro W base args ds gs before hval0 hW hcnd hsz0 _
  have hsz : (DataW.weightsEach Try.prog (Try.f6.params.toList ++ Rows.keyDescriptionsSpec.plain.varTypes Try.prog) (ds ++ gs)).all (· ≤ reachBytes) = true := hsz0
  have hval : ∀ (j : Nat) t v, Try.f6.params[j]? = some t → args[j]? = some v → Value.okWide Try.prog W .any base t v := hval0
  have hW' := hW
  obtain ⟨p, q, hA0, hV, rfl, hfz, hnd⟩ := hW
  have hA : DataW.TrodAll enc Try.prog W 0 (fun _ => true) true Try.f6.params.toList args.toList ds p := hA0
  rw [Try.params6] at hA hval hsz
  obtain ⟨v0, vs0, d0, ds0, p0, q0, hargs, rfl, rfl, h0, r0⟩ := trodAll_cons hA
  obtain ⟨v1, vs1, d1, ds1, p1, q1, rfl, rfl, rfl, h1, r1⟩ := trodAll_cons r0
  obtain ⟨rfl, rfl, rfl⟩ := trodAll_nil r1
  obtain rfl : args = #[v0, v1] := by cases args; simp_all
  obtain ⟨rfl, rfl⟩ := trodVars_none hV
  have k0 := h0
  have lt0 : ∀ x ∈ p0, x.block < W.heap.size := by obtain ⟨m, hm⟩ := k0; exact DataW.trod_lt m _ _ _ hm
  obtain ⟨a0, rfl⟩ := open_ds (hval 0 41 v0 rfl rfl) h0
  obtain ⟨a1, rfl, rfl, rfl, y1⟩ := open_string Try.underlying9 (hval 1 9 v1 rfl rfl) h1
  have w1 : a1.size ≤ 140737488351232 := by
    have z := sized_string hsz (j := 1) (t := 9) rfl rfl
    rw [Array.length_toList] at z
    exact z
  clear hA0 hval0 hsz0 hsz
  refine (calls_below (keyDescriptions_ok a0 a1 rfl) ⟨_, _, rfl, DS.rep [] a0, ⟨_, _, rfl, rfl, rfl⟩⟩ W).mono fun e W' ⟨he, bel⟩ => ?_
  subst he
  exact ⟨_, rfl, _, _, _, [], _, [], hW', trodAll_mk1 (shut_bool Try.underlying4 _), (trodAll_cons_mk (Below.trod laidOut (by kernel_rfl) (of_decide_eq_true (by kernel_rfl)) k0 bel lt0) (trodAll_cons_mk (shut_string Try.underlying9 y1) trodAll_mk0)), rfl, bel.frame _, fun h => by cases h⟩
theorem over : Rows.keyDescriptionsRow.holds Try.pinned (OpenSpec.ofChange Rows.keyDescriptionsSpec) :=
  OpenClaim.holds_of_wide 6 Try.f6 rfl rfl rfl rfl rfl rfl rfl ⟨rfl, rfl, rfl, rfl, rfl⟩ rfl rfl rfl rfl rfl (by kernel_rfl) Try.func6 (by kernel_rfl)
    (of_decide_eq_true (by kernel_rfl)) (by unfold Func.isWrapper; first | (rw [if_pos (by decide +kernel)]; kernel_rfl) | (rw [if_neg (by decide +kernel)]; exact ⟨rfl, rfl⟩))
    (fun os started H enc _ => lifted os started H enc)
theorem proved : Rows.KeyDescriptionsSaid := over
end Go.Proofs.Ytljokmmgkecjbaa.keyDescriptions
namespace Go.Proofs.Ytljokmmgkecjbaa
theorem keyDescriptions_holds : Rows.KeyDescriptionsSaid := keyDescriptions.proved
#print axioms keyDescriptions_holds
end Go.Proofs.Ytljokmmgkecjbaa
