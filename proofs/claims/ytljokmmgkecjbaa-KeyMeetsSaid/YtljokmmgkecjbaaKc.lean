/- Lemmas for the claim's theorem. -/
import Derived.Test.YtljokmmgkecjbaaKa
import Derived.Laws.StructEq
import Derived.Test.YtljokmmgkecjbaaKb
set_option linter.unusedVariables false
set_option linter.unusedSimpArgs false
set_option maxRecDepth 100000
namespace Go.Proofs.Ytljokmmgkecjbaa
open Go Go.AM

/-! '==' of ranges, and of locks -/
theorem eq33 (a b a2 b2 : ByteArray) (e e2 : Bool) (w : World) (d : Nat) :
    (Op.equalIn (d + 2) 33 (.agg #[.string a, .string b, .bool e]) (.agg #[.string a2, .string b2, .bool e2])).run Try.prog w = .ok (sEq a a2 && sEq b b2 && (e == e2)) w := by
  have u9 := Try.underlying9
  have u4 := Try.underlying4
  have a9 := Try.isAgg9
  have a4 := Try.isAgg4
  have hS : Try.prog.underlying 33 = some (.struct (Try.prog.fieldsOf 33)) := by kernel_rfl
  have hp : Try.prog.stoodInHeld 33 = false := by kernel_rfl
  rw [show d + 2 = (d + 1) + 1 from rfl, run_equalIn_agg w (d + 1) 33 _ _ hS hp]
  simp only [Program.fieldsOf, Try.underlying33]
  go_simp
  unfold sEq
  cases h1 : (a.toList == a2.toList) <;> cases h2 : (b.toList == b2.toList) <;> cases e <;> cases e2 <;> simp_all

theorem eq58 (u i u2 i2 : Int) (a b a2 b2 : ByteArray) (e x e2 x2 : Bool) (w : World) (d : Nat) :
    (Op.equalIn (d + 3) 58 (.agg #[.int .i64 u, .int .i64 i, .string a, .string b, .bool e, .bool x]) (.agg #[.int .i64 u2, .int .i64 i2, .string a2, .string b2, .bool e2, .bool x2])).run Try.prog w = .ok ((u == u2) && (i == i2) && (sEq a a2 && sEq b b2 && (e == e2)) && (x == x2)) w := by
  have u3 := Try.underlying3
  have u4 := Try.underlying4
  have u33 := Try.underlying33
  have a3 := Try.isAgg3
  have a4 := Try.isAgg4
  have a33 := Try.isAgg33
  have z33 := Try.sizeOf33
  have hS : Try.prog.underlying 58 = some (.struct (Try.prog.fieldsOf 58)) := by kernel_rfl
  have hp : Try.prog.stoodInHeld 58 = false := by kernel_rfl
  rw [show d + 3 = (d + 2) + 1 from rfl, run_equalIn_agg w (d + 2) 58 _ _ hS hp]
  simp only [Program.fieldsOf, Try.underlying58]
  go_simp
  unfold sEq
  cases h1 : (u == u2)
  · simp_all
  cases h2 : (i == i2)
  · simp_all
  cases h3 : (a.toList == a2.toList)
  · simp_all
  cases h4 : (b.toList == b2.toList)
  · simp_all
  cases e <;> cases e2 <;> cases x <;> cases x2 <;> simp_all

def eqA33 : List Sc → List Sc → Option Bool
  | [.str a, .str b, c], [.str a2, .str b2, c2] => match boolOf c, boolOf c2 with
    | some e, some e2 => some (sEq a a2 && sEq b b2 && (e == e2))
    | _, _ => none
  | _, _ => none
def eqA58 : List Sc → List Sc → Option Bool
  | [.int _ .i64 u, .int _ .i64 i, .str a, .str b, c, d], [.int _ .i64 u2, .int _ .i64 i2, .str a2, .str b2, c2, d2] => match boolOf c, boolOf c2, boolOf d, boolOf d2 with
    | some e, some e2, some x, some x2 => some ((u == u2) && (i == i2) && (sEq a a2 && sEq b b2 && (e == e2)) && (x == x2))
    | _, _, _, _ => none
  | _, _ => none
noncomputable def eqT (T : TypeId) (xs ys : List Sc) : Option Bool := match T with
  | 33 => eqA33 xs ys
  | 58 => eqA58 xs ys
  | _ => none
theorem eqT_ok : ∀ T xs ys b, eqT T xs ys = some b → ∀ env vs us w x y, SRepL env xs vs → SRepL env ys us →
    (do eqGuard .eql T x y (.agg ⟨vs⟩) (.agg ⟨us⟩); binOp .eql T (.agg ⟨vs⟩) (.agg ⟨us⟩) : Sem Value).run Try.prog w = .ok (.bool b) w ∧
    (do eqGuard .neq T x y (.agg ⟨vs⟩) (.agg ⟨us⟩); binOp .neq T (.agg ⟨vs⟩) (.agg ⟨us⟩) : Sem Value).run Try.prog w = .ok (.bool (!b)) w := by
  intro T xs ys b h env vs us w x y hx hy
  unfold eqT at h
  split at h
  · unfold eqA33 at h
    split at h
    · split at h
      · rename_i he he2
        cases h
        obtain ⟨v, _, rfl, hv, v2, _, rfl, hv2, v3, _, rfl, hv3, rfl⟩ := hx
        obtain ⟨u, _, rfl, hu, u2, _, rfl, hu2, u3, _, rfl, hu3, rfl⟩ := hy
        cases hv; cases hv2; cases hu; cases hu2
        rw [boolOf_rep he hv3, boolOf_rep he2 hu3]
        constructor
        · rw [Sem.run_bind, run_eqGuard_agg w _ _ _ _ _ _ (by kernel_rfl), Result.andThen_ok, run_eql_struct, show (10000 : Nat) = 9998 + 2 from rfl, eq33]; rfl
        · rw [Sem.run_bind, run_eqGuard_agg w _ _ _ _ _ _ (by kernel_rfl), Result.andThen_ok, run_neq_struct, show (10000 : Nat) = 9998 + 2 from rfl, eq33]; rfl
      · cases h
    · cases h
  · unfold eqA58 at h
    split at h
    · split at h
      · rename_i he he2 hx hx2
        cases h
        rename_i hX hY _ _ _ _ _ _ _ _
        obtain ⟨v, _, rfl, hv, v2, _, rfl, hv2, v3, _, rfl, hv3, v4, _, rfl, hv4, v5, _, rfl, hv5, v6, _, rfl, hv6, rfl⟩ := ‹SRepL env [.int _ .i64 _, .int _ .i64 _, .str _, .str _, _, _] vs›
        obtain ⟨u, _, rfl, hu, u2, _, rfl, hu2, u3, _, rfl, hu3, u4, _, rfl, hu4, u5, _, rfl, hu5, u6, _, rfl, hu6, rfl⟩ := ‹SRepL env [.int _ .i64 _, .int _ .i64 _, .str _, .str _, _, _] us›
        cases hv; cases hv2; cases hv3; cases hv4; cases hu; cases hu2; cases hu3; cases hu4
        rw [boolOf_rep he hv5, boolOf_rep he2 hu5, boolOf_rep hx hv6, boolOf_rep hx2 hu6]
        constructor
        · rw [Sem.run_bind, run_eqGuard_agg w _ _ _ _ _ _ (by kernel_rfl), Result.andThen_ok, run_eql_struct, show (10000 : Nat) = 9997 + 3 from rfl, eq58]; rfl
        · rw [Sem.run_bind, run_eqGuard_agg w _ _ _ _ _ _ (by kernel_rfl), Result.andThen_ok, run_neq_struct, show (10000 : Nat) = 9997 + 3 from rfl, eq58]; rfl
      · cases h
    · cases h
  · cases h
end Go.Proofs.Ytljokmmgkecjbaa

namespace Go.Proofs.Ytljokmmgkecjbaa
open Go Go.AM
theorem awake_lb {m K} (hk : K (.sc (.lb true)) m) : TripleF Try.prog 19 [] m K := by
  intro w0 F env vs w hM hr
  obtain ⟨hc, hcalls⟩ := awake_ok (m := m) (K := fun r m' => r = .sc (.bool true) ∧ m' = m) ⟨rfl, rfl⟩ w0 F env vs w hM hr
  refine ⟨hc, hcalls.mono ?_⟩
  rintro e w' ⟨r, m', env', v, rfl, ⟨rfl, rfl⟩, he, hv, hM'⟩
  exact ⟨_, _, env', v, rfl, hk, he, hv, hM'⟩
noncomputable def qt6 : QTab := fun f args => match f, args with
  | 19, [] => some (none, .sc (.lb true))
  | f, args => qt5 f args
theorem qt6ok : qt6.Ok Try.prog := by
  intro f args p r h hp m k hk
  unfold qt6 at h
  split at h
  · cases h; exact awake_lb hk
  · exact qt5ok f args p r h hp m k hk
noncomputable def E6 : Eng := mkEng Try.prog kindsT3 eqT qt6 sp4 qs3b
theorem E6ok : E6.Ok := mkEng_ok mixedT qt6ok sp4_ok qs3b_ok eqT_ok

theorem sEq_self (a : ByteArray) : sEq a a = true := sEq_iff.2 rfl
set_option maxHeartbeats 4000000 in
theorem keyRanges_ok (a b : Rng) (k : ByteArray) {m K} (hk : K (.sc (.bool true)) m) : TripleF Try.prog 8 [a.A, b.A, .sc (.str k)] m K := by
  obtain ⟨lo, hi, e⟩ := a
  obtain ⟨lo2, hi2, e2⟩ := b
  refine pure_of_awp (R := fun r' => r' = .sc (.bool true)) E6ok Try.func8 rfl (by kernel_rfl) rfl ?_ (fun r h => h ▸ hk)
  clear hk
  simp only [Rng.A]
  repeat' ((conv => whnf) <;> first | exact trivial | refine Br.mk (fun _ => ?_) (fun _ => ?_) | refine Cast.mk _ _ ?_ | refine Need.mk (by kernel_rfl) ?_ | refine Need.mk ?_ ?_)
  all_goals (try (conv => whnf))
  all_goals (first | exact trivial | (exfalso; simp_all [sEq_self]; done) | skip)
  all_goals (simp [sEq_self]; exact sEq_iff.2 rfl)
end Go.Proofs.Ytljokmmgkecjbaa
