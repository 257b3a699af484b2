/- Lemmas for the claim's theorem. -/
import Derived.Test.YtljokmmgkecjbaaKa
set_option linter.unusedVariables false
set_option linter.unusedSimpArgs false
set_option maxRecDepth 100000
namespace Go.Proofs.Ytljokmmgkecjbaa
open Go Go.AM
set_option maxHeartbeats 8000000 in
theorem rvalid_ok (d : DS) {m K} (hk : K (.sc (.bool (validB d))) m) : TripleF Try.prog 38 [d.A] m K := by
  obtain ⟨id, org, fmt, len, blk, kat, kln, itv, area, fi, fa, base, aat, aln, uniq, cls, vol, own, cre, exp, arch⟩ := d
  refine pure_of_awp (R := fun r' => r' = .sc (.bool (validB ⟨id, org, fmt, len, blk, kat, kln, itv, area, fi, fa, base, aat, aln, uniq, cls, vol, own, cre, exp, arch⟩))) E3bok Try.func38 rfl (by kernel_rfl) rfl ?_ (fun r h => h ▸ hk)
  clear hk
  simp only [DS.A]
  conv => whnf
  repeat' ((conv => whnf); first | refine Br.mk (fun _ => ?_) (fun _ => ?_) | refine Cast.mk _ _ ?_)
  all_goals (conv => whnf)
  all_goals refine congrArg (fun b => AVal.sc (.bool b)) ?_
  all_goals simp only [beq_iff_eq, beq_eq_false_iff_ne, bne_iff_ne, ne_eq, bne_eq_false_iff_eq, Bool.not_eq_true', Bool.not_eq_false', Bool.and_eq_true, Bool.and_eq_false_iff, decide_eq_true_eq, decide_eq_false_iff_not, List.all_cons, List.all_nil, Bool.and_true, le_minI, wrap_mod, Bool.not_eq_true, Bool.not_eq_false] at *
  all_goals (rw [Bool.eq_iff_iff, validB, decide_eq_true_eq, ValidP])
  all_goals simp only [Bool.and_eq_true, decide_eq_true_eq, Bool.false_eq_true, beq_iff_eq, List.all_cons, List.all_nil, Bool.and_true, le_minI, wrap_mod]
  all_goals (try subst_vars)
  all_goals (refine ⟨fun h => ?_, fun h => ?_⟩)
  all_goals (first | omega | exact h.elim | (simp at *; done) | (simp at *; omega) | skip)
end Go.Proofs.Ytljokmmgkecjbaa

namespace Go.Proofs.Ytljokmmgkecjbaa
open Go Go.AM
def dsOf : AVal → Option DS
  | .agg [.int _ .i64 id, .int _ .i64 org, .int _ .i64 fmt, .int _ .i64 len, .int _ .i64 blk, .int _ .i64 kat, .int _ .i64 kln, .int _ .i64 itv, .int _ .i64 area, .int _ .i64 fi, .int _ .i64 fa, .int _ .i64 base, .int _ .i64 aat, .int _ .i64 aln, .bool uniq, .int _ .i64 cls, .str vol, .str own, .int _ .i64 cre, .int _ .i64 exp, .bool arch] =>
    some ⟨id, org, fmt, len, blk, kat, kln, itv, area, fi, fa, base, aat, aln, uniq, cls, vol, own, cre, exp, arch⟩
  | _ => none
theorem dsOf_eq {x : AVal} {d : DS} (h : dsOf x = some d) : stdL [x] = [d.A] := by
  unfold dsOf at h
  split at h
  · cases h; rfl
  · cases h
noncomputable def qt4 : QTab := fun f args => match f, args with
  | 31, [.agg [.str lo, .str hi, .bool e], .agg [.str lo2, .str hi2, .bool e2]] => some (none, .sc (.bool (!emptyB (meetR ⟨lo, hi, e⟩ ⟨lo2, hi2, e2⟩))))
  | 42, [.agg [.str lo, .str hi, .bool e], .agg [.str lo2, .str hi2, .bool e2]] => some (none, .sc (.bool (!emptyB (meetR ⟨lo, hi, e⟩ ⟨lo2, hi2, e2⟩))))
  | 43, [.agg [.str lo, .str hi, .bool e], .agg [.str lo2, .str hi2, .bool e2]] => some (none, .sc (.bool (coversB ⟨lo, hi, e⟩ ⟨lo2, hi2, e2⟩)))
  | 44, [.agg [.str lo, .str hi, .bool e], .agg [.str lo2, .str hi2, .bool e2]] => some (none, .sc (.bool (coversB ⟨lo, hi, e⟩ ⟨lo2, hi2, e2⟩)))
  | 28, [.sc (.str a), .sc (.str b)] => some (some (a.size ≤ 281474976710656), .sc (.int false .i64 (front a b)))
  | 37, [x] => match dsOf x with
    | some d => some (none, .sc (.bool (validB d)))
    | none => none
  | 38, [x] => match dsOf x with
    | some d => some (none, .sc (.bool (validB d)))
    | none => none
  | f, args => qt3 f args
theorem qt4ok : qt4.Ok Try.prog := by
  intro f args p r h hp m k hk
  unfold qt4 at h
  split at h
  · cases h; exact overlap_ok ⟨_, _, _⟩ ⟨_, _, _⟩ hk
  · cases h; exact roverlap_ok ⟨_, _, _⟩ ⟨_, _, _⟩ hk
  · cases h; exact covers_ok ⟨_, _, _⟩ ⟨_, _, _⟩ hk
  · cases h; exact rcovers_ok ⟨_, _, _⟩ ⟨_, _, _⟩ hk
  · cases h; exact rfront_ok _ _ (hp _ rfl) hk
  · split at h
    · rename_i d hd
      cases h
      exact TripleF.std (by rw [dsOf_eq hd]; exact valid_ok d hk)
    · cases h
  · split at h
    · rename_i d hd
      cases h
      exact TripleF.std (by rw [dsOf_eq hd]; exact rvalid_ok d hk)
    · cases h
  · exact qt3ok f args p r h hp m k hk
theorem few_fit {m : List AM.Item} {t : Nat} {ys : List Rng} (h : roFit2 m [.ro rngK ys] [t]) {k} (hk : k (.sc (.bool (fewB ys))) m) : TripleF Try.prog 30 [.sc (.h t)] m k :=
  frame_ro2 (few_base ys) [t] rfl rfl h fun r hr => hr ▸ hk
noncomputable def sp4 (f : FuncId) (args : List AVal) (m : List AM.Item) (k : AVal → List AM.Item → Prop) : Prop := match f, args with
  | 30, [.sc (.h t)] => rowS m t rngK (fun ys => .sc (.bool (fewB ys))) k
  | f, args => sp3b f args m k
theorem sp4_ok : ∀ f args m k, sp4 f args m k → TripleF Try.prog f args m k := by
  intro f args m k h
  unfold sp4 at h
  split at h
  · obtain ⟨ys, hk, hf⟩ := rowS_fit h; exact few_fit hf hk
  · exact sp3b_ok _ _ _ _ h
noncomputable def E4 : Eng := mkEng Try.prog kindsT3 noEq qt4 sp4 qs3b
theorem E4ok : E4.Ok := mkEng_ok mixedT qt4ok sp4_ok qs3b_ok (fun _ _ _ _ h => by cases h)

/-- the key of a record -/
def ofR (d : DS) (s : ByteArray) : ByteArray × Int :=
  if validB d = false then (strE, 1) else if d.org ≠ 3 then (strE, 7) else if d.kat + d.kln ≤ s.size ∧ (s.size : Int) ≤ d.len then (s.extract d.kat.toNat (d.kat + d.kln).toNat, 0) else (strE, 2)
def ofA (d : DS) (s : ByteArray) : AVal := .tup [(false, [.str (ofR d s).1]), (false, [.int false .i64 (ofR d s).2])]
theorem extract2 (s : ByteArray) (a b : Nat) (h : a + b ≤ s.size) : (s.extract a s.size).extract 0 b = s.extract a (a + b) := by
  apply ByteArray.ext
  apply Array.toList_inj.1
  have h1 := Lib.extract_toList (s.extract a s.size) 0 b
  have h2 := Lib.extract_toList s a (a + b)
  have h3 := Lib.extract_toList s a s.size
  rw [Lib.toList_data] at h1 h2 h3
  rw [h1, h2, h3, List.drop_zero, List.take_take]
  congr 1
  omega
theorem of_ok (d : DS) (s : ByteArray) {m K} (hk : K (ofA d s) m) : TripleF Try.prog 35 [d.A, .sc (.str s)] m K := by
  obtain ⟨id, org, fmt, len, blk, kat, kln, itv, area, fi, fa, base, aat, aln, uniq, cls, vol, own, cre, exp, arch⟩ := d
  refine pure_of_awp (R := fun r' => r' = ofA ⟨id, org, fmt, len, blk, kat, kln, itv, area, fi, fa, base, aat, aln, uniq, cls, vol, own, cre, exp, arch⟩ s) E4ok Try.func35 rfl (by kernel_rfl) rfl ?_ (fun r h => h ▸ hk)
  clear hk
  simp only [DS.A]
  conv => whnf
  refine Br.mk (fun c1 => ?_) (fun c1 => ?_)
  · conv => whnf
    rw [Bool.not_eq_true'] at c1
    rw [ofA, ofR, if_pos c1]; rfl
  · rw [Bool.not_eq_false'] at c1
    have hv : ValidP _ := of_decide_eq_true c1
    unfold ValidP at hv
    simp only at hv
    conv => whnf
    refine Br.mk (fun c2 => ?_) (fun c2 => ?_)
    · conv => whnf
      rw [ofA, ofR, if_neg (by rw [c1]; simp), if_pos (by simpa using c2)]; rfl
    · have c2 : org = 3 := by simpa using c2
      have hv2 := hv.2.2.2.2.2.2.2.2.2 c2
      conv => whnf
      have w1 : IntKind.i64.wrap (kat + kln) = kat + kln := wrapI (by omega) (by omega)
      refine Br.mk (fun c3 => ?_) (fun c3 => ?_)
      · conv => whnf
        rw [w1] at c3
        simp only [Bool.not_eq_true', Bool.and_eq_false_iff, decide_eq_false_iff_not] at c3
        rw [ofA, ofR, if_neg (by rw [c1]; simp), if_neg (by simp [c2]), if_neg (by simp only; omega)]; rfl
      · rw [w1] at c3
        simp only [Bool.not_eq_false', Bool.and_eq_true, decide_eq_true_eq] at c3
        conv => whnf
        refine Need.mk (by kernel_rfl) ?_
        conv => whnf
        refine Need.mk ?_ ?_
        · show 0 ≤ (s.size : Int) ∧ (s.size : Int) ≤ s.size
          omega
        conv => whnf
        refine Need.mk ?_ ?_
        · show 0 ≤ kat ∧ kat ≤ s.size
          omega
        conv => whnf
        have hsz : (s.extract kat.toNat s.size).size = s.size - kat.toNat := by
          rw [ByteArray.size_extract]; omega
        refine Need.mk ?_ ?_
        · show 0 ≤ kln ∧ kln ≤ ((s.extract kat.toNat s.size).size : Int)
          omega
        conv => whnf
        refine Need.mk ?_ ?_
        · show 0 ≤ (0 : Int) ∧ 0 ≤ kln
          omega
        conv => whnf
        rw [ofA, ofR, if_neg (by rw [c1]; simp), if_neg (by simp [c2]), if_pos (by simp only; omega)]
        show AVal.tup [(false, [.str ((s.extract kat.toNat s.size).extract 0 kln.toNat)]), _] = _
        rw [extract2 s kat.toNat kln.toNat (by omega)]
        show _ = AVal.tup [(false, [.str (s.extract kat.toNat (kat + kln).toNat)]), _]
        rw [show (kat + kln).toNat = kat.toNat + kln.toNat by omega]; rfl
theorem rof_ok (d : DS) (s : ByteArray) {m K} (hk : K (ofA d s) m) : TripleF Try.prog 36 [d.A, .sc (.str s)] m K := by
  obtain ⟨id, org, fmt, len, blk, kat, kln, itv, area, fi, fa, base, aat, aln, uniq, cls, vol, own, cre, exp, arch⟩ := d
  refine pure_of_awp (R := fun r' => r' = ofA ⟨id, org, fmt, len, blk, kat, kln, itv, area, fi, fa, base, aat, aln, uniq, cls, vol, own, cre, exp, arch⟩ s) E4ok Try.func36 rfl (by kernel_rfl) rfl ?_ (fun r h => h ▸ hk)
  clear hk
  simp only [DS.A]
  conv => whnf
  refine Br.mk (fun c1 => ?_) (fun c1 => ?_)
  · conv => whnf
    rw [Bool.not_eq_true'] at c1
    rw [ofA, ofR, if_pos c1]; rfl
  · rw [Bool.not_eq_false'] at c1
    have hv : ValidP _ := of_decide_eq_true c1
    unfold ValidP at hv
    simp only at hv
    conv => whnf
    refine Br.mk (fun c2 => ?_) (fun c2 => ?_)
    · conv => whnf
      rw [ofA, ofR, if_neg (by rw [c1]; simp), if_pos (by simpa using c2)]; rfl
    · have c2 : org = 3 := by simpa using c2
      have hv2 := hv.2.2.2.2.2.2.2.2.2 c2
      conv => whnf
      have w1 : IntKind.i64.wrap (kat + kln) = kat + kln := wrapI (by omega) (by omega)
      refine Br.mk (fun c3 => ?_) (fun c3 => ?_)
      · have c3 := of_decide_eq_true c3
        conv => whnf
        rw [ofA, ofR, if_neg (by rw [c1]; simp), if_neg (by simp [c2]), if_neg (by simp only; omega)]; rfl
      · have c3 := of_decide_eq_false c3
        conv => whnf
        refine Br.mk (fun c4 => ?_) (fun c4 => ?_)
        · rw [w1] at c4
          have c4 := of_decide_eq_true c4
          conv => whnf
          rw [ofA, ofR, if_neg (by rw [c1]; simp), if_neg (by simp [c2]), if_neg (by simp only; omega)]; rfl
        · rw [w1] at c4
          have c4 := of_decide_eq_false c4
          conv => whnf
          refine Need.mk ?_ ?_
          · show 0 ≤ IntKind.i64.wrap (kat + kln) ∧ IntKind.i64.wrap (kat + kln) ≤ s.size
            omega
          refine Need.mk ?_ ?_
          · show 0 ≤ kat ∧ kat ≤ IntKind.i64.wrap (kat + kln)
            omega
          conv => whnf
          rw [ofA, ofR, if_neg (by rw [c1]; simp), if_neg (by simp [c2]), if_pos (by simp only; omega)]
          show AVal.tup [(false, [.str (s.extract kat.toNat (IntKind.i64.wrap (kat + kln)).toNat)]), _] = _
          rw [w1]; rfl
end Go.Proofs.Ytljokmmgkecjbaa

namespace Go.Proofs.Ytljokmmgkecjbaa
open Go Go.AM
noncomputable def qt5 : QTab := fun f args => match f, args with
  | 35, [x, .sc (.str s)] => match dsOf x with
    | some d => some (none, ofA d s)
    | none => none
  | 36, [x, .sc (.str s)] => match dsOf x with
    | some d => some (none, ofA d s)
    | none => none
  | f, args => qt4 f args
theorem dsOf_eq2 {x : AVal} {d : DS} {s : ByteArray} (h : dsOf x = some d) : stdL [x, .sc (.str s)] = [d.A, .sc (.str s)] := by
  unfold dsOf at h
  split at h
  · cases h; rfl
  · cases h
theorem qt5ok : qt5.Ok Try.prog := by
  intro f args p r h hp m k hk
  unfold qt5 at h
  split at h
  · split at h
    · rename_i d hd
      cases h
      exact TripleF.std (by rw [dsOf_eq2 hd]; exact of_ok d _ hk)
    · cases h
  · split at h
    · rename_i d hd
      cases h
      exact TripleF.std (by rw [dsOf_eq2 hd]; exact rof_ok d _ hk)
    · cases h
  · exact qt4ok f args p r h hp m k hk
noncomputable def E5 : Eng := mkEng Try.prog kindsT3 noEq qt5 sp4 qs3b
theorem E5ok : E5.Ok := mkEng_ok mixedT qt5ok sp4_ok qs3b_ok (fun _ _ _ _ h => by cases h)
theorem awake_ok {m K} (hk : K (.sc (.bool true)) m) : TripleF Try.prog 19 [] m K := by
  refine pure_of_awp (R := fun r' => r' = .sc (.bool true)) E5ok Try.func19 rfl (by kernel_rfl) rfl ?_ (fun r h => h ▸ hk)
  clear hk
  conv => whnf
  refine Need.mk (by decide) ?_
  repeat' ((conv => whnf); first | refine Br.mk (fun _ => ?_) (fun h => absurd (h.symm.trans (by kernel_rfl : _ = true)) (by decide)) | refine Need.mk (by kernel_rfl) ?_ | refine Need.mk (by decide) ?_)
  conv => whnf
  exact congrArg (fun b => AVal.sc (.bool b)) (by kernel_rfl : _ = true)
end Go.Proofs.Ytljokmmgkecjbaa
