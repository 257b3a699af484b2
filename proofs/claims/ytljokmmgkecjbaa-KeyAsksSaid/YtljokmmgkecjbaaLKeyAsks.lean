/- For every input the law KeyAsks returns true, and each argument reads as before; no further condition. -/
import Derived.Test.YtljokmmgkecjbaaKn
import Derived.Test.YtljokmmgkecjbaaKc
import Derived.Test.YtljokmmgkecjbaaRows
import Derived.Test.YtljokmmgkecjbaaKv
set_option linter.unusedVariables false
set_option linter.unusedSimpArgs false
set_option maxRecDepth 100000
namespace Go.Proofs.Ytljokmmgkecjbaa
open Go Go.AM
def other (s : ByteArray) (n : Nat) : ByteArray := s.extract 0 n ++ strOfNums [IntKind.u8.wrap (byteAt s n + 1)] ++ s.extract (n + 1) s.size
def bump (c : UInt8) : UInt8 := UInt8.ofNat (IntKind.u8.wrap ((c.toNat : Int) + 1)).toNat
theorem bump_ne (c : UInt8) : bump c ≠ c := by
  intro h
  have h1 := congrArg UInt8.toNat h
  have h2 := UInt8.toNat_lt c
  unfold bump at h1
  rw [u8w, UInt8.toNat_ofNat'] at h1
  omega
theorem toList_append (a b : ByteArray) : (a ++ b).data.toList = a.data.toList ++ b.data.toList := by
  obtain ⟨a⟩ := a; obtain ⟨b⟩ := b
  simp [ByteArray.append_eq, ByteArray.data_append]
theorem ext_list (s : ByteArray) (a b : Nat) : (s.extract a b).data.toList = (s.data.toList.drop a).take (b - a) := by
  have h := Lib.extract_toList s a b
  rw [Lib.toList_data] at h
  first | exact h | (rw [h]; simp)
theorem other_list (s : ByteArray) (n : Nat) (hn : n < s.size) : (other s n).data.toList = s.data.toList.set n (bump (s.data.toList.getD n 0)) := by
  unfold other
  have hl := size_list s
  rw [toList_append, toList_append, ext_list, ext_list]
  have h1 : (strOfNums [IntKind.u8.wrap (byteAt s n + 1)]).data.toList = [bump (s.data.toList.getD n 0)] := rfl
  rw [h1, List.drop_zero, Nat.sub_zero, List.take_of_length_le (l := s.data.toList.drop (n + 1)) (by rw [List.length_drop]; omega)]
  rw [List.set_eq_take_append_cons_drop, if_pos (by omega)]
  simp
theorem asks (d : DS) (s : ByteArray) (n : Nat) (hn : n < s.size) :
    (ofR d s).2 = (ofR d (other s n)).2 ∧ (!((ofR d s).1.toList == (ofR d (other s n)).1.toList)) = (((ofR d s).2 == 0) && decide ((n : Int) ≥ d.kat) && decide ((n : Int) < IntKind.i64.wrap (d.kat + d.kln))) := by
  have hl := size_list s
  have ho := other_list s n hn
  have hsz : (other s n).size = s.size := by rw [← size_list, ho, List.length_set, hl]
  by_cases h1 : validB d = false
  · simp [ofR, h1]
  have h1' : validB d = true := by simpa using h1
  by_cases h2 : d.org ≠ 3
  · simp [ofR, h1', h2]
  have hv : ValidP d := of_decide_eq_true h1'
  have h2' : d.org = 3 := Classical.not_not.1 h2
  obtain ⟨v1, v2, v3, v4, v5, v6, v7, v8, v9, v10⟩ := hv
  obtain ⟨w1, w2, w3, w4, w5, w6, w7⟩ := v10 h2'
  have hw : IntKind.i64.wrap (d.kat + d.kln) = d.kat + d.kln := wrapI (by omega) (by omega)
  rw [hw]
  by_cases h3 : d.kat + d.kln ≤ s.size ∧ (s.size : Int) ≤ d.len
  · have e1 : ofR d s = (s.extract d.kat.toNat (d.kat + d.kln).toNat, 0) := by simp only [ofR]; rw [if_neg (by rw [h1']; simp), if_neg h2, if_pos h3]
    have e2 : ofR d (other s n) = ((other s n).extract d.kat.toNat (d.kat + d.kln).toNat, 0) := by simp only [ofR]; rw [if_neg (by rw [h1']; simp), if_neg h2, if_pos (by rw [hsz]; exact h3)]
    rw [e1, e2]
    refine ⟨rfl, ?_⟩
    simp only [beq_self_eq_true, Bool.true_and]
    rw [Lib.toList_data, Lib.toList_data, ext_list, ext_list, ho]
    generalize hA : d.kat.toNat = A
    generalize hB : (d.kat + d.kln).toNat = B
    have hkA : (A : Int) = d.kat := by omega
    have hkB : (B : Int) = d.kat + d.kln := by omega
    generalize s.data.toList = l at *
    by_cases hin : A ≤ n ∧ n < B
    · have hne : ¬ ((l.drop A).take (B - A) = ((l.set n (bump (l.getD n 0))).drop A).take (B - A)) := by
        intro he
        have := congrArg (·[n - A]?) he
        simp only [List.getElem?_take, List.getElem?_drop] at this
        rw [if_pos (by omega), if_pos (by omega), show A + (n - A) = n by omega, List.getElem?_set_self (by omega), List.getElem?_eq_getElem (by omega)] at this
        have h' := Option.some.inj this
        have hg : l.getD n 0 = l[n]'(by omega) := by rw [List.getD_eq_getElem?_getD, List.getElem?_eq_getElem (by omega)]; rfl
        rw [hg] at h'
        exact bump_ne _ h'.symm
      rw [show ((l.drop A).take (B - A) == ((l.set n (bump (l.getD n 0))).drop A).take (B - A)) = false from by simpa using hne]
      rw [decide_eq_true (by omega), decide_eq_true (by omega)]; rfl
    · have heq : (l.drop A).take (B - A) = ((l.set n (bump (l.getD n 0))).drop A).take (B - A) := by
        apply List.ext_getElem?
        intro j
        simp only [List.getElem?_take, List.getElem?_drop]
        split
        · rw [List.getElem?_set_ne (by omega)]
        · rfl
      rw [← heq]
      simp only [beq_self_eq_true, Bool.not_true]
      symm
      rw [Bool.and_eq_false_iff, decide_eq_false_iff_not, decide_eq_false_iff_not]
      omega
  · have e1 : ofR d s = (strE, 2) := by simp only [ofR]; rw [if_neg (by rw [h1']; simp), if_neg h2, if_neg h3]
    have e2 : ofR d (other s n) = (strE, 2) := by simp only [ofR]; rw [if_neg (by rw [h1']; simp), if_neg h2, if_neg (by rw [hsz]; exact h3)]
    rw [e1, e2]
    simp
end Go.Proofs.Ytljokmmgkecjbaa

namespace Go.Proofs.Ytljokmmgkecjbaa
open Go Go.AM
theorem strOfNums_one (x : Int) : (strOfNums [x]).size = 1 := rfl
set_option maxHeartbeats 4000000 in
theorem keyAsks_ok (d : DS) (s : ByteArray) (n : Nat) (hi : n ≤ 255) (hs : s.size ≤ 140737488351232) {mm K} (hk : K (.sc (.bool true)) mm) : TripleF Try.prog 7 [d.A, .sc (.str s), .sc (.int false .u8 (n : Int))] mm K := by
  obtain ⟨id, org, fmt, len, blk, kat, kln, itv, area, fi, fa, base, aat, aln, uniq, cls, vol, own, cre, exp, arch⟩ := d
  have A := asks ⟨id, org, fmt, len, blk, kat, kln, itv, area, fi, fa, base, aat, aln, uniq, cls, vol, own, cre, exp, arch⟩ s n
  unfold other at A
  have hw : IntKind.i64.wrap (n : Int) = n := wrapI (by omega) (by omega)
  have hw1 : IntKind.i64.wrap ((n : Int) + 1) = ((n + 1 : Nat) : Int) := wrapI (by omega) (by omega)
  refine pure_of_awp (R := fun r' => r' = .sc (.bool true)) E6ok Try.func7 rfl (by kernel_rfl) rfl ?_ (fun r h => h ▸ hk)
  clear hk
  simp only [DS.A]
  repeat' ((conv => whnf) <;> first | exact trivial | refine Br.mk (fun _ => ?_) (fun _ => ?_) | refine Cast.mk _ _ ?_ | refine Need.mk (by kernel_rfl) ?_ | refine Need.mk ?_ ?_)
  all_goals (try (conv => whnf))
  all_goals simp only [hw, hw1, Option.getD_some, Option.getD_none, Int.toNat_natCast, Int.toNat_zero, decide_eq_false_iff_not, Int.not_le, ge_iff_le, Int.ofNat_lt, Nat.not_le] at *
  all_goals (first | omega | skip)
  all_goals (have A := A ‹n < s.size›)
  all_goals (first
    | (refine (show _ ≤ (9223372036854775807 : Nat) from ?_)
       rw [ByteArray.size_extract, strOfNums_one]
       omega)
    | (refine (show _ ≤ (9223372036854775807 : Nat) from ?_)
       rw [ByteArray.size_append, ByteArray.size_extract, ByteArray.size_extract, strOfNums_one]
       omega)
    | (obtain ⟨A1, A2⟩ := A
       first
       | (exfalso; simp_all; done)
       | (refine congrArg (fun b => AVal.sc (.bool b)) ?_
          rw [A2]
          simp_all)))
end Go.Proofs.Ytljokmmgkecjbaa

namespace Go.Proofs.Ytljokmmgkecjbaa.keyAsks
open Go Go.AM Go.ChangeShapes Go.WideShapes Go.ChangeAt Go.RowKit
open Go.ChangeMaps (open_string shut_string)
theorem own : ownKnob Try.prog.godebug = none := by kernel_rfl
theorem laidOut : laidOutB Try.prog = true := by kernel_rfl
theorem lifted (os : Os) (started : os.Started) (H : Type) (enc : TypeId × Value → H) :
    ReturnsInHanded {} Try.checked os 7 .any (Rows.keyAsksSpec.pre6 enc Try.prog Try.f7 Rows.keyAsksRow.domain false) (Rows.keyAsksSpec.post enc Try.prog Try.f7 false true false false) := by
  refine returnsInHanded_of_change_sized (C := Try.checked) own started (by kernel_rfl) Try.func7
    (ChangeSpec.witness6 (enc := enc) (C := Try.checked) false ⟨#[], #[.agg #[.int .i64 0, .int .i64 0, .int .i64 0, .int .i64 0, .int .i64 0, .int .i64 0, .int .i64 0, .int .i64 0, .int .i64 0, .int .i64 0, .int .i64 0, .int .i64 0, .int .i64 0, .int .i64 0, .bool false, .int .i64 0, .string ByteArray.empty, .string ByteArray.empty, .int .i64 0, .int .i64 0, .bool false], .string ByteArray.empty, .int .u8 0], []⟩ 8 (by kernel_rfl) (by kernel_rfl) (by kernel_rfl) (by kernel_rfl)) ?_
  intro W base args ds gs before hval0 hW hcnd hsz0 _
  have hsz : (DataW.weightsEach Try.prog (Try.f7.params.toList ++ Rows.keyAsksSpec.plain.varTypes Try.prog) (ds ++ gs)).all (· ≤ reachBytes) = true := hsz0
  have hval : ∀ (j : Nat) t v, Try.f7.params[j]? = some t → args[j]? = some v → Value.okWide Try.prog W .any base t v := hval0
  have hW' := hW
  obtain ⟨p, q, hA0, hV, rfl, hfz, hnd⟩ := hW
  have hA : DataW.TrodAll enc Try.prog W 0 (fun _ => true) true Try.f7.params.toList args.toList ds p := hA0
  rw [Try.params7] at hA hval hsz
  obtain ⟨v0, vs0, d0, ds0, p0, q0, hargs, rfl, rfl, h0, r0⟩ := trodAll_cons hA
  obtain ⟨v1, vs1, d1, ds1, p1, q1, rfl, rfl, rfl, h1, r1⟩ := trodAll_cons r0
  obtain ⟨v2, vs2, d2, ds2, p2, q2, rfl, rfl, rfl, h2, r2⟩ := trodAll_cons r1
  obtain ⟨rfl, rfl, rfl⟩ := trodAll_nil r2
  obtain rfl : args = #[v0, v1, v2] := by cases args; simp_all
  obtain ⟨rfl, rfl⟩ := trodVars_none hV
  have k0 := h0
  have lt0 : ∀ x ∈ p0, x.block < W.heap.size := by obtain ⟨m, hm⟩ := k0; exact DataW.trod_lt m _ _ _ hm
  obtain ⟨a0, rfl⟩ := open_ds (hval 0 41 v0 rfl rfl) h0
  obtain ⟨a1, rfl, rfl, rfl, y1⟩ := open_string Try.underlying9 (hval 1 9 v1 rfl rfl) h1
  have w1 : a1.size ≤ 140737488351232 := by
    have z := sized_string hsz (j := 1) (t := 9) rfl rfl
    rw [Array.length_toList] at z
    exact z
  obtain ⟨a2, rfl, rfl, rfl, w2⟩ := open_int Try.underlying5 (hval 2 5 v2 rfl rfl) h2
  obtain ⟨b2, u2⟩ := bounds_u8 w2
  obtain ⟨n2, rfl⟩ : ∃ n : Nat, a2 = n := ⟨a2.toNat, by omega⟩
  clear hA0 hval0 hsz0 hsz
  refine (calls_below (keyAsks_ok a0 a1 n2 (by omega) w1 rfl) ⟨_, _, rfl, DS.rep [] a0, ⟨_, _, rfl, rfl, ⟨_, _, rfl, rfl, rfl⟩⟩⟩ W).mono fun e W' ⟨he, bel⟩ => ?_
  subst he
  exact ⟨_, rfl, _, _, _, [], _, [], hW', trodAll_mk1 (shut_bool Try.underlying4 _), (trodAll_cons_mk (Below.trod laidOut (by kernel_rfl) (of_decide_eq_true (by kernel_rfl)) k0 bel lt0) (trodAll_cons_mk (shut_string Try.underlying9 y1) (trodAll_cons_mk (shut_int Try.underlying5 w2) trodAll_mk0))), rfl, bel.frame _, fun h => by cases h⟩
theorem over : Rows.keyAsksRow.holds Try.pinned (OpenSpec.ofChange Rows.keyAsksSpec) :=
  OpenClaim.holds_of_wide 7 Try.f7 rfl rfl rfl rfl rfl rfl rfl ⟨rfl, rfl, rfl, rfl, rfl⟩ rfl rfl rfl rfl rfl (by kernel_rfl) Try.func7 (by kernel_rfl)
    (of_decide_eq_true (by kernel_rfl)) (by unfold Func.isWrapper; first | (rw [if_pos (by decide +kernel)]; kernel_rfl) | (rw [if_neg (by decide +kernel)]; exact ⟨rfl, rfl⟩))
    (fun os started H enc _ => lifted os started H enc)
theorem proved : Rows.KeyAsksSaid := over
end Go.Proofs.Ytljokmmgkecjbaa.keyAsks
namespace Go.Proofs.Ytljokmmgkecjbaa
theorem keyAsks_holds : Rows.KeyAsksSaid := keyAsks.proved
#print axioms keyAsks_holds
end Go.Proofs.Ytljokmmgkecjbaa
