/- Lemmas for the claim's theorem. -/
import Derived.Test.YtljokmmgkecjbaaQg
set_option linter.unusedVariables false
set_option linter.unusedSimpArgs false
set_option maxRecDepth 100000
namespace Go.Proofs.Ytljokmmgkecjbaa
open Go Go.AM
noncomputable def freshK2 (m : List AM.Item) (xs ys : List Lk) (k : AVal → List AM.Item → Prop) : Prop :=
  snocK m .gone fun m1 n => snocK m1 (.slc lockK xs) fun m2 a => snocK m2 (.slc lockK ys) fun m3 b => setK m3 n (.box 112 [.h a, .h b]) fun m4 => k (.sc (.fld n 0)) m4
theorem freshK2_eq {m : List AM.Item} {xs ys : List Lk} {k : AVal → List AM.Item → Prop} (h : freshK2 m xs ys k) : k (.sc (.fld m.length 0)) (m ++ [.box 112 [.h (m.length + 1), .h (m.length + 2)], .slc lockK xs, .slc lockK ys]) := by
  unfold freshK2 at h
  simp only [setK_eq, snocK_eq, List.length_append, List.length_singleton, List.append_assoc] at h
  rw [List.set_append_right _ _ (Nat.le_refl _), Nat.sub_self] at h
  exact h
noncomputable def playS (args : List AVal) (m : List AM.Item) (k : AVal → List AM.Item → Prop) : Prop := match args with
  | [.sc (.h t)] => match (nth m t .gone).row with
    | some ⟨K, acts⟩ => Cast (K1 := actK) K acts fun acts => Need (acts.length ≤ 1000000) (freshK2 m (playL acts).1 (playL acts).2 k)
    | none => False
  | _ => False
theorem playS_ok {args : List AVal} {m : List AM.Item} {k : AVal → List AM.Item → Prop} (h : playS args m k) : TripleF Try.prog 61 args m k := by
  unfold playS at h
  split at h
  · rename_i t
    split at h
    · rename_i K acts hrow
      obtain ⟨acts, _, hlen, h⟩ := h
      have hg : nth m t .gone ≠ .gone := by intro e; rw [e] at hrow; cases hrow
      exact frame_add (m0 := [.ro actK acts]) (extra := [.box 112 [.h 2, .h 3], .slc lockK (playL acts).1, .slc lockK (playL acts).2]) (r0 := .sc (.fld 1 0)) (play_base acts hlen) [t] rfl rfl ⟨⟨actK, acts, hrow, rfl, rfl⟩, trivial⟩ rfl (by simp only [List.all_cons, List.all_nil, Bool.and_true, Nat.blt_eq]; exact nth_lt rfl hg) (freshK2_eq h)
    · exact h.elim
  · exact h.elim
noncomputable def unitsS (args : List AVal) (m : List AM.Item) (k : AVal → List AM.Item → Prop) : Prop := match args with
  | [.sc (.h t)] => match (nth m t .gone).row with
    | some ⟨K, acts⟩ => Cast (K1 := actK) K acts fun acts => Need (acts.length ≤ 1048576) (snocK m (.slc int55 (setL (actU acts))) fun m' n => k (.sc (.h n)) m')
    | none => False
  | _ => False
theorem unitsS_ok {args : List AVal} {m : List AM.Item} {k : AVal → List AM.Item → Prop} (h : unitsS args m k) : TripleF Try.prog 50 args m k := by
  unfold unitsS at h
  split at h
  · rename_i t
    split at h
    · rename_i K acts hrow
      obtain ⟨acts, _, hlen, h⟩ := h
      rw [snocK_eq] at h
      have hg : nth m t .gone ≠ .gone := by intro e; rw [e] at hrow; cases hrow
      exact frame_add (m0 := [.ro actK acts]) (extra := [.slc int55 (setL (actU acts))]) (units_base acts hlen) [t] rfl rfl ⟨⟨actK, acts, hrow, rfl, rfl⟩, trivial⟩ rfl (by simp only [List.all_cons, List.all_nil, Bool.and_true, Nat.blt_eq]; exact nth_lt rfl hg) h
    · exact h.elim
  · exact h.elim
def waitsS (args : List AVal) (m : List AM.Item) (k : AVal → List AM.Item → Prop) : Prop := match args with
  | [.sc (.fld t 0), .sc (.int _ .i64 unit)] => mgrS t m fun a b xs ys => k (.tup [(true, (waitsL ys unit).S), (false, [.bool (ys.any (ofB unit))])]) m
  | _ => False
theorem waitsS_ok {args : List AVal} {m : List AM.Item} {k : AVal → List AM.Item → Prop} (h : waitsS args m k) : TripleF Try.prog 53 args m k := by
  unfold waitsS at h
  split at h
  · rename_i t _ unit
    obtain ⟨a, b, xs, ys, h, h1, h2, h3⟩ := mgrS_get h
    exact TripleF.std (frame_same (waits_base xs ys unit) rfl [t, a, b] rfl rfl h1 h2 h3 h)
  · exact h.elim
noncomputable def sp46g (f : FuncId) (args : List AVal) (m : List AM.Item) (k : AVal → List AM.Item → Prop) : Prop := match f with
  | 50 => unitsS args m k
  | 52 => blockersS args m k
  | 53 => waitsS args m k
  | 61 => playS args m k
  | 62 => heldS args m k
  | 63 => requestS args m k
  | 64 => cancelS args m k
  | 72 => releaseS args m k
  | f => sp46f f args m k
theorem sp46g_ok : ∀ f args m k, sp46g f args m k → TripleF Try.prog f args m k := by
  intro f args m k h
  unfold sp46g at h
  split at h
  · exact unitsS_ok h
  · exact blockersS_ok h
  · exact waitsS_ok h
  · exact playS_ok h
  · exact heldS_ok h
  · exact requestS_ok h
  · exact cancelS_ok h
  · exact releaseS_ok h
  · exact sp46f_ok _ _ _ _ h
noncomputable def E16 : Eng := mkEngX Try.prog kinds46b eqT qt46e sp46g noQ maps46 (fun _ _ _ => none) (fun _ => false)
theorem E16_ok : E16.Ok := mkEngX_ok mixedT qt46eok sp46g_ok (fun _ _ _ _ _ h => by cases h) eqT_ok maps46_ok (fun _ _ _ _ h => by cases h)
theorem step_len (s : List Lk × List Lk) (u : Int) : (stepR s u).1.length + (stepR s u).2.length ≤ s.1.length + s.2.length := by
  unfold stepR
  split
  · exact Nat.le_refl _
  · have h1 := grantL_len (s.1.filter (notB u)) [] (s.2.filter (notB u))
    have h2 := List.length_filter_le (notB u) s.1
    have h3 := List.length_filter_le (notB u) s.2
    simp only [relL, List.length_nil] at *; omega
theorem pass_len : ∀ (all : List Int) (s : List Lk × List Lk), (passR all s).1.length + (passR all s).2.length ≤ s.1.length + s.2.length
  | [], _ => Nat.le_refl _
  | u :: all, s => Nat.le_trans (pass_len all (stepR s u)) (step_len s u)
theorem rounds_len (all : List Int) (s : List Lk × List Lk) : ∀ n, (roundsR all n s).1.length + (roundsR all n s).2.length ≤ s.1.length + s.2.length
  | 0 => Nat.le_refl _
  | n + 1 => Nat.le_trans (pass_len all _) (rounds_len all s n)
theorem pass_snoc {all : List Int} {s : List Lk × List Lk} {j : Nat} (hj : j < all.length) : passR (all.take (j + 1)) s = stepR (passR (all.take j) s) (all.getD j 0) := by
  unfold passR
  rw [List.take_succ_eq_append_getElem hj, List.foldl_append, List.getD_eq_getElem?_getD, List.getElem?_eq_getElem hj]; rfl
set_option maxHeartbeats 2000000 in
theorem ends_base (acts : List Ac) : TripleF Try.prog 16 [.sc (.h 0)] [.ro actK acts] (fun r _ => r = .sc (.bool true) ∧ r.below 0 = true) := by
  refine base_of_awp (R := fun r => r = .sc (.bool true)) E16_ok Try.func16 rfl (by kernel_rfl) ?_
  conv => whnf
  refine Cast.mk _ _ ?_
  conv => whnf
  refine Br.mk (fun c1 => ?_) (fun c1 => ?_)
  · conv => whnf
  have c1 : fewA acts 50 = true := by
    have c1 : (!fewA acts 50) = false := c1
    simpa using c1
  have hl50 := few_len c1
  conv => whnf
  refine Cast.mk _ _ (Need.mk (by omega) ?_)
  conv => whnf
  refine Cast.mk _ _ (Need.mk (by omega) ?_)
  conv => whnf
  have hend := ends_law acts
  have hpl := play_len acts
  generalize setL (actU acts) = all at hend ⊢
  generalize hs0 : playL acts = s0 at hend hpl ⊢
  refine Know.mk fun hlen => ?_
  have hlen : all.length ≤ 9223372036854775807 := hlen
  conv => whnf
  refine LoopF.inv Nat (fun i => i ≤ all.length) (fun i => [(23, .sc (.int false .i64 (i : Int)))]) (fun i => all.length - i)
    (fun i => [.ro actK acts, .box 112 [.h 5, .h 6], .gone, .gone, .slc int55 all, .slc lockK (roundsR all i s0).1, .slc lockK (roundsR all i s0).2]) (fun _ => Nat.le_add_right 5 2) 0 [2, 3]
    (Nat.zero_le _) ⟨⟨⟨rfl, rfl⟩, trivial⟩, ⟨rfl, ⟨rfl, rfl⟩, trivial, trivial, rfl, rfl, rfl, trivial⟩, rfl⟩ ?_
  rintro i h1
  have hri := rounds_len all s0 i
  generalize hS : roundsR all i s0 = S at hri
  conv => whnf
  refine Br.mk (fun c2 => ?_) (fun c2 => ?_)
  · have hi := ltN c2
    conv => whnf
    refine Know.mk fun _ => ?_
    conv => whnf
    refine LoopF.inv Nat (fun j => j ≤ all.length) (fun j => [(27, .sc (.int false .i64 (j : Int)))]) (fun j => all.length - j)
      (fun j => [.ro actK acts, .box 112 [.h 7, .h 8], .gone, .gone, .slc int55 all, .gone, .gone, .slc lockK (passR (all.take j) S).1, .slc lockK (passR (all.take j) S).2]) (fun _ => Nat.le_add_right 7 2) 0 [5, 6]
      (Nat.zero_le _) ⟨⟨⟨rfl, rfl⟩, trivial⟩, ⟨rfl, ⟨rfl, rfl⟩, trivial, trivial, rfl, trivial, trivial, rfl, rfl, trivial⟩, rfl⟩ ?_
    rintro j h2
    have hpj := pass_len (all.take j) S
    have hsn : j < all.length → passR (all.take (j + 1)) S = stepR (passR (all.take j) S) (all.getD j 0) := pass_snoc
    have hwhole : all.length ≤ j → passR (all.take j) S = roundsR all (i + 1) s0 := fun h => by rw [List.take_of_length_le h, ← hS]; rfl
    generalize hT : passR (all.take j) S = T at hpj hsn hwhole
    conv => whnf
    refine Br.mk (fun c3 => ?_) (fun c3 => ?_)
    · have hj := ltN c3
      have hsn := hsn hj
      conv => whnf
      refine Need.mk (show 0 ≤ (j : Int) ∧ (j : Int) < (all.length : Nat) from ⟨by omega, by omega⟩) ?_
      conv => whnf
      refine Need.mk (show 7 ≠ 8 by decide) (Cast.mk _ _ (Cast.mk _ _ ?_))
      conv => whnf
      refine Br.mk (fun c4 => ?_) (fun c4 => ?_)
      · have c4 : (!T.2.any (ofB (nth all j 0))) = true := c4
        rw [nth_eq] at c4
        have hany : T.2.any (ofB (all.getD j 0)) = false := by simpa using c4
        conv => whnf
        refine Need.mk (show 7 ≠ 8 by decide) (Cast.mk _ _ (Cast.mk _ _ (Need.mk (by omega) ?_)))
        conv => whnf
        refine ⟨j + 1, [10, 11], by omega, by omega, ⟨⟨⟨rfl, wrap_succ hj hlen⟩, trivial⟩, ⟨rfl, ⟨rfl, rfl⟩, trivial, trivial, rfl, trivial, trivial, ?_, ?_, trivial⟩, rfl⟩, rfl⟩
        · show AM.Item.slc lockK (relL T.1 T.2 (nth all j 0)).1 = .slc lockK (passR (all.take (j + 1)) S).1
          rw [hsn, stepR, hany, nth_eq]
        · show AM.Item.slc lockK (relL T.1 T.2 (nth all j 0)).2.1 = .slc lockK (passR (all.take (j + 1)) S).2
          rw [hsn, stepR, hany, nth_eq]
      · have c4 : (!T.2.any (ofB (nth all j 0))) = false := c4
        rw [nth_eq] at c4
        have hany : T.2.any (ofB (all.getD j 0)) = true := by simpa using c4
        conv => whnf
        refine ⟨j + 1, [7, 8], by omega, by omega, ⟨⟨⟨rfl, wrap_succ hj hlen⟩, trivial⟩, ⟨rfl, ⟨rfl, rfl⟩, trivial, trivial, rfl, trivial, trivial, ?_, ?_, trivial⟩, rfl⟩, rfl⟩
        · show AM.Item.slc lockK T.1 = .slc lockK (passR (all.take (j + 1)) S).1
          rw [hsn, stepR, hany]
        · show AM.Item.slc lockK T.2 = .slc lockK (passR (all.take (j + 1)) S).2
          rw [hsn, stepR, hany]
    · have hj := geN c3
      conv => whnf
      refine ⟨i + 1, [7, 8], by omega, by omega, ⟨⟨⟨rfl, wrap_succ hi hlen⟩, trivial⟩, ⟨rfl, ⟨rfl, rfl⟩, trivial, trivial, rfl, ?_, ?_, trivial⟩, rfl⟩, rfl⟩
      · show AM.Item.slc lockK T.1 = .slc lockK (roundsR all (i + 1) s0).1
        rw [hwhole hj]
      · show AM.Item.slc lockK T.2 = .slc lockK (roundsR all (i + 1) s0).2
        rw [hwhole hj]
  · have hi := geN c2
    have hie : i = all.length := by omega
    rw [hie] at hS
    rw [hS] at hend
    have e1 : S.1 = [] := (List.append_eq_nil_iff.1 hend).1
    have e2 : S.2 = [] := (List.append_eq_nil_iff.1 hend).2
    rw [e1, e2]
    conv => whnf
    refine Need.mk (show 5 ≠ 6 by decide) (Cast.mk _ _ (Cast.mk _ _ (Need.mk ⟨Nat.zero_le _, Nat.zero_le _⟩ ?_)))
    conv => whnf
    refine Know.mk fun _ => ?_
    conv => whnf
    refine Know.mk fun _ => ?_
    conv => whnf

    refine Br.mk (fun c => ?_) (fun c => absurd (show (IntKind.i64.wrap (((0 : Nat) : Int) + ((0 : Nat) : Int)) == 0) = false from c) (by decide))
    conv => whnf
end Go.Proofs.Ytljokmmgkecjbaa
