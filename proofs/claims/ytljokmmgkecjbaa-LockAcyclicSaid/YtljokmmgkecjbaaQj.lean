/- Lemmas for the claim's theorem. -/
import Derived.Test.YtljokmmgkecjbaaQi
import Derived.Test.YtljokmmgkecjbaaQg
set_option linter.unusedVariables false
set_option linter.unusedSimpArgs false
set_option maxRecDepth 100000
namespace Go.Proofs.Ytljokmmgkecjbaa
open Go Go.AM
noncomputable def blocksS (args : List AVal) (m : List AM.Item) (k : AVal → List AM.Item → Prop) : Prop := match args with
  | [.agg [.h a, .h b], x, .sc (.int _ .i64 n)] => match lkOf x with
    | some l => match (nth m a .gone).row, (nth m b .gone).row with
      | some ⟨K1, xs⟩, some ⟨K2, ys⟩ => Cast (K1 := lockK) K1 xs fun xs => Cast (K1 := lockK) K2 ys fun ys => Need (0 ≤ n ∧ n.toNat ≤ ys.length ∧ xs.length ≤ 1048576 ∧ ys.length ≤ 1048576) (snocK m (.slc int55 (blocksL xs (ys.take n.toNat) l)) fun m' c => k (.sc (.h c)) m')
      | _, _ => False
    | none => False
  | _ => False
theorem blocksS_ok {args : List AVal} {m : List AM.Item} {k : AVal → List AM.Item → Prop} (h : blocksS args m k) : TripleF Try.prog 106 args m k := by
  unfold blocksS at h
  split at h
  · rename_i a b x q n
    split at h
    · rename_i l hl
      split at h
      · rename_i K1 xs K2 ys ha hb
        obtain ⟨xs, _, ys, _, ⟨hn0, hnl, hx, hy⟩, h⟩ := h
        obtain ⟨p, rfl⟩ : ∃ p : Nat, n = p := ⟨n.toNat, by omega⟩
        rw [Int.toNat_natCast] at hnl h
        rw [snocK_eq] at h
        have ga : nth m a .gone ≠ .gone := by intro e; rw [e] at ha; cases ha
        have gb : nth m b .gone ≠ .gone := by intro e; rw [e] at hb; cases hb
        have la := nth_lt rfl ga
        have lb := nth_lt rfl gb
        refine TripleF.arg (pre := [.agg [.h a, .h b]]) (post := [.sc (.int q .i64 p)]) (fun env v => lkOf_rep hl) ?_
        refine TripleF.std ?_
        exact frame_add (m0 := [.ro lockK xs, .ro lockK ys]) (extra := [.slc int55 (blocksL xs (ys.take p) l)]) (blocks_base xs ys l p hnl hx hy) [a, b] rfl rfl ⟨⟨lockK, xs, ha, rfl, rfl⟩, ⟨lockK, ys, hb, rfl, rfl⟩, trivial⟩ (by simp [apartP, apart1, Item.own]) (by simp [Nat.blt_eq, la, lb]) h
      · exact h.elim
    · exact h.elim
  · exact h.elim
noncomputable def sp47d (f : FuncId) (args : List AVal) (m : List AM.Item) (k : AVal → List AM.Item → Prop) : Prop := match f with
  | 106 => blocksS args m k
  | _ => False
theorem sp47d_ok : ∀ f args m k, sp47d f args m k → TripleF Try.prog f args m k := by
  intro f args m k h
  unfold sp47d at h
  split at h
  · exact blocksS_ok h
  · exact h.elim
noncomputable def E104 : Eng := mkEngX Try.prog kinds46b eqT qt46c sp47d noQ maps46 (fun _ _ _ => none) (fun _ => false)
theorem E104_ok : E104.Ok := mkEngX_ok mixedT qt46cok sp47d_ok (fun _ _ _ _ _ h => by cases h) eqT_ok maps46_ok (fun _ _ _ _ h => by cases h)
theorem blocks_empty (held before : List Lk) (l : Lk) : (blocksL held before l).isEmpty = (blkM held before l).isEmpty := by
  cases h1 : blkM held before l with
  | nil =>
    cases h2 : blocksL held before l with
    | nil => rfl
    | cons k t =>
      have : k ∈ keysM (blkM held before l) := (blocks_mem _ _ _ _).1 (by rw [h2]; simp)
      rw [h1] at this; cases this
  | cons p t =>
    cases h2 : blocksL held before l with
    | cons _ _ => rfl
    | nil =>
      have : p.1 ∈ blocksL held before l := (blocks_mem _ _ _ _).2 (by rw [h1]; simp [keysM])
      rw [h2] at this; cases this
set_option maxHeartbeats 1000000 in
theorem rgrant_base (held queue : List Lk) (hb : held.length + queue.length ≤ 1048576) : TripleF Try.prog 104 [.agg [.h 0, .h 1]] [.slc lockK held, .slc lockK queue] (fun r m' => r = .tup [(true, [.h 2, .h 3]), (false, [.h 4])] ∧ m' = [.gone, .gone, .slc lockK (grantL held [] queue).1, .slc lockK (grantL held [] queue).2.1, .slc int55 (grantL held [] queue).2.2]) := by
  refine triple_of_awp E104_ok Try.func104 rfl (by kernel_rfl) ?_
  conv => whnf
  refine LoopF.inv GrS (GrJ held queue) (fun s => [(4, .sc (.h 7)), (5, .sc (.int false .i64 (s.pre.length : Int)))]) (fun s => s.post.length)
    (fun s => [.gone, .gone, .box 76 [.h 5, .h 6], .box 76 [.val (.slice none 0 0), .val (.slice none 0 0)], .gone, .slc lockK s.held, .slc lockK (s.pre ++ s.post), .slc int55 s.out]) (fun _ => Nat.le_add_right 5 3) ⟨held, [], queue, []⟩ [0, 1, 4] ⟨rfl, rfl, rfl, by simp, by simp⟩ ⟨⟨⟨rfl, rfl⟩, ⟨rfl, rfl⟩, trivial⟩, ⟨trivial, trivial, ⟨rfl, rfl⟩, ⟨rfl, rfl⟩, trivial, rfl, rfl, rfl, trivial⟩, rfl⟩ ?_
  rintro ⟨hs, pre, post, out⟩ ⟨Jh, Jq, Jo, Jl, Jn⟩
  simp only at Jh Jq Jo Jl Jn
  conv => whnf
  refine Know.mk fun hmax => ?_
  conv => whnf
  refine Br.mk (fun c1 => ?_) (fun c1 => ?_)
  · have c1 := ltN c1
    cases post with
    | nil => simp at c1
    | cons l post =>
      have hql : (pre ++ l :: post).length ≤ 1048576 := by simp at Jl ⊢; omega
      have hpl : pre.length < (pre ++ l :: post).length := by simp
      have hhl : hs.length ≤ 1048576 := by omega
      have hnl : nth (pre ++ l :: post) (pre.length : Int).toNat lk0 = l := by
        rw [Int.toNat_natCast, nth_eq, List.getD_eq_getElem?_getD, List.getElem?_append_right (Nat.le_refl _), Nat.sub_self]; rfl
      conv => whnf
      refine Need.mk (show 0 ≤ (pre.length : Int) ∧ (pre.length : Int) < ((pre ++ l :: post).length : Nat) from ⟨by omega, by omega⟩) ?_
      conv => whnf
      refine Cast.mk _ _ ?_
      conv => whnf
      refine Cast.mk _ _ ?_
      conv => whnf
      refine Need.mk (show 0 ≤ (pre.length : Int) ∧ (pre.length : Int).toNat ≤ (pre ++ l :: post).length ∧ hs.length ≤ 1048576 ∧ (pre ++ l :: post).length ≤ 1048576 from ⟨by omega, by omega, hhl, hql⟩) ?_
      conv => whnf
      have hbk : blocksL hs ((pre ++ l :: post).take (pre.length : Int).toNat) (nth (pre ++ l :: post) (pre.length : Int).toNat lk0) = blocksL hs pre l := by
        rw [hnl, Int.toNat_natCast, List.take_left]
      have hbe := blocks_empty hs pre l
      have hwr : AVal.sc (.int false .i64 (IntKind.i64.wrap ((pre.length : Int) + 1))) = .sc (.int false .i64 (((pre ++ [l]).length : Nat) : Int)) := by
        rw [wrap_succ hpl (by omega), List.length_append]; rfl
      refine Know.mk fun _ => ?_
      conv => whnf
      refine Br.mk (fun c2 => ?_) (fun c2 => ?_)
      · have c2 : decide ((((blocksL hs ((pre ++ l :: post).take (pre.length : Int).toNat) (nth (pre ++ l :: post) (pre.length : Int).toNat lk0)).length : Nat) : Int) > 0) = true := c2
        rw [hbk] at c2
        have he : (blkM hs pre l).isEmpty = false := by
          rw [← hbe]
          cases hz : blocksL hs pre l with
          | nil => rw [hz] at c2; simp at c2
          | cons _ _ => rfl
        have hg : grantL hs pre (l :: post) = grantL hs (pre ++ [l]) post := by rw [grantL, he]
        rw [hg] at Jh Jq Jo
        conv => whnf
        refine ⟨⟨hs, pre ++ [l], post, out⟩, [5, 6, 7], ⟨Jh, Jq, Jo, by simp at Jl ⊢; omega, by simp at Jn ⊢; omega⟩, by simp, ⟨⟨⟨rfl, rfl⟩, ⟨rfl, hwr⟩, trivial⟩, ⟨trivial, trivial, ⟨rfl, rfl⟩, ⟨rfl, rfl⟩, trivial, rfl, ?_, rfl, trivial⟩, rfl⟩, rfl⟩
        show AM.Item.slc lockK (pre ++ l :: post) = .slc lockK ((pre ++ [l]) ++ post)
        rw [List.append_assoc]; rfl
      · have c2 : decide ((((blocksL hs ((pre ++ l :: post).take (pre.length : Int).toNat) (nth (pre ++ l :: post) (pre.length : Int).toNat lk0)).length : Nat) : Int) > 0) = false := c2
        rw [hbk] at c2
        have he : (blkM hs pre l).isEmpty = true := by
          rw [← hbe]
          cases hz : blocksL hs pre l with
          | nil => rfl
          | cons _ _ => rw [hz] at c2; simp at c2
        have hg : grantL hs pre (l :: post) = (let r := grantL (hs ++ [l]) pre post; (r.1, r.2.1, l.u :: r.2.2)) := by rw [grantL, he]
        rw [hg] at Jh Jq Jo
        conv => whnf
        refine Need.mk (show 0 ≤ (pre.length : Int) ∧ (pre.length : Int) ≤ ((pre ++ l :: post).length : Nat) from ⟨by omega, by omega⟩) ?_
        refine Need.mk (show 0 ≤ (0 : Int) ∧ (0 : Int) ≤ (pre.length : Nat) from ⟨by omega, by omega⟩) ?_
        conv => whnf
        refine Cast.mk _ _ ?_
        have hT : List.take (((some (pre.length : Int)).getD ((pre ++ l :: post).length : Int)).toNat - ((none : Option Int).getD 0).toNat) (List.drop ((none : Option Int).getD 0).toNat (pre ++ l :: post)) = pre := by
          show List.take ((pre.length : Int).toNat - 0) (pre ++ l :: post) = pre
          rw [Int.toNat_natCast, Nat.sub_zero, List.take_left]
        generalize List.take (((some (pre.length : Int)).getD ((pre ++ l :: post).length : Int)).toNat - ((none : Option Int).getD 0).toNat) (List.drop ((none : Option Int).getD 0).toNat (pre ++ l :: post)) = T at hT
        conv => whnf
        refine Need.mk (show (0 + T.length) * 64 ≤ 140737488355328 from by rw [hT]; omega) ?_
        conv => whnf
        have hw : IntKind.i64.wrap ((pre.length : Int) + 1) = ((pre.length + 1 : Nat) : Int) := by
          rw [wrapI (by omega) (by omega)]; rfl
        refine Need.mk (show 0 ≤ (((pre ++ l :: post).length : Nat) : Int) ∧ (((pre ++ l :: post).length : Nat) : Int) ≤ ((pre ++ l :: post).length : Nat) from ⟨by omega, by omega⟩) ?_
        refine Need.mk (show 0 ≤ IntKind.i64.wrap ((pre.length : Int) + 1) ∧ IntKind.i64.wrap ((pre.length : Int) + 1) ≤ ((pre ++ l :: post).length : Nat) from by rw [hw]; omega) ?_
        conv => whnf
        refine Cast.mk _ _ ?_
        have hT2 : List.take (((none : Option Int).getD ((pre ++ l :: post).length : Int)).toNat - ((some (IntKind.i64.wrap ((pre.length : Int) + 1))).getD 0).toNat) (List.drop ((some (IntKind.i64.wrap ((pre.length : Int) + 1))).getD 0).toNat (pre ++ l :: post)) = post := by
          show List.take ((((pre ++ l :: post).length : Nat) : Int).toNat - (IntKind.i64.wrap ((pre.length : Int) + 1)).toNat) (List.drop (IntKind.i64.wrap ((pre.length : Int) + 1)).toNat (pre ++ l :: post)) = post
          rw [hw, Int.toNat_natCast, Int.toNat_natCast, ← List.drop_drop, List.drop_left]
          show List.take _ post = post
          refine List.take_of_length_le ?_
          simp; omega
        generalize List.take (((none : Option Int).getD ((pre ++ l :: post).length : Int)).toNat - ((some (IntKind.i64.wrap ((pre.length : Int) + 1))).getD 0).toNat) (List.drop ((some (IntKind.i64.wrap ((pre.length : Int) + 1))).getD 0).toNat (pre ++ l :: post)) = T2 at hT2
        have hlt : T.length + T2.length ≤ 1048576 := by rw [hT, hT2]; simp at hql; omega
        conv => whnf
        refine Need.mk ?_ ?_
        · rw [List.nil_append]
          have hz : (T.length + T2.length) * 64 ≤ 140737488355328 := by omega
          exact hz
        conv => whnf
        refine Need.mk (by kernel_rfl) ?_
        conv => whnf
        refine Cast.mk _ _ ?_
        conv => whnf
        refine Need.mk ?_ ?_
        · have hz : (0 + hs.length) * 64 ≤ 140737488355328 := by omega
          exact hz
        conv => whnf
        refine Cast.mk _ _ ?_
        conv => whnf
        refine Need.mk ?_ ?_
        · rw [List.nil_append]
          have hz : (hs.length + 1) * 64 ≤ 140737488355328 := by omega
          exact hz
        conv => whnf
        refine Need.mk (by kernel_rfl) ?_
        conv => whnf
        refine Cast.mk _ _ ?_
        conv => whnf
        refine Need.mk ?_ ?_
        · have hz : (out.length + 1) * 8 ≤ 140737488355328 := by simp at Jn; omega
          exact hz
        conv => whnf
        refine ⟨⟨hs ++ [l], pre, post, out ++ [l.u]⟩, [16, 12, 18], ⟨Jh, Jq, by rw [Jo]; simp, by simp at Jl ⊢; omega, by simp at Jn ⊢; omega⟩, by simp, ⟨⟨⟨rfl, rfl⟩, ⟨rfl, rfl⟩, trivial⟩, ⟨trivial, trivial, ⟨rfl, rfl⟩, ⟨rfl, rfl⟩, trivial, ?_, ?_, ?_, trivial⟩, rfl⟩, rfl⟩
        · show AM.Item.slc lockK ([] ++ hs ++ [nth (pre ++ l :: post) (pre.length : Int).toNat lk0]) = .slc lockK (hs ++ [l])
          rw [hnl, List.nil_append]
        · show AM.Item.slc lockK ([] ++ T ++ T2) = .slc lockK (pre ++ post)
          rw [hT, hT2, List.nil_append]
        · show AM.Item.slc int55 (out ++ [(nth (pre ++ l :: post) (pre.length : Int).toNat lk0).u]) = .slc int55 (out ++ [l.u])
          rw [hnl]
  · have c1 := geN c1
    cases post with
    | cons l post =>
      simp at c1
      omega
    | nil =>
      conv => whnf
      refine FinF.mk _ (.tup [(true, [.h 2, .h 3]), (false, [.h 4])]) [.gone, .gone, .slc lockK (grantL held [] queue).1, .slc lockK (grantL held [] queue).2.1, .slc int55 (grantL held [] queue).2.2] [5, 6, 7] rfl rfl rfl ⟨trivial, trivial, ?_, ?_, ?_, trivial⟩ rfl (Nat.le_add_right 2 3) ⟨rfl, rfl⟩
      · show AM.Item.slc lockK hs = _
        rw [Jh]; rfl
      · show AM.Item.slc lockK (pre ++ []) = _
        rw [Jq, List.append_nil]; rfl
      · show AM.Item.slc int55 out = _
        rw [Jo, show (grantL hs pre []).2.2 = [] from rfl, List.append_nil]
end Go.Proofs.Ytljokmmgkecjbaa

namespace Go.Proofs.Ytljokmmgkecjbaa
open Go Go.AM
/-- a state of the reference handed on -/
noncomputable def stateS (a b : Nat) (m : List AM.Item) (K : List Lk → List Lk → Prop) : Prop := match nth m a .gone, nth m b .gone with
  | .slc K1 xs, .slc K2 ys => Need (a ≠ b) (Cast (K1 := lockK) K1 xs fun xs => Cast (K1 := lockK) K2 ys fun ys => K xs ys)
  | _, _ => False
noncomputable def putSt (a b : Nat) (m : List AM.Item) (xs ys : List Lk) (K : List AM.Item → Nat → Nat → Prop) : Prop := setK m a .gone fun m1 => setK m1 b .gone fun m2 => snocK m2 (.slc lockK xs) fun m3 n1 => snocK m3 (.slc lockK ys) fun m4 n2 => K m4 n1 n2
theorem stateS_get {a b : Nat} {m : List AM.Item} {K : List Lk → List Lk → Prop} (h : stateS a b m K) : ∃ xs ys, K xs ys ∧ takes m (fun i => nth [a, b] i i) 2 [.slc lockK xs, .slc lockK ys] [a, b] ∧ apartP [.slc lockK xs, .slc lockK ys] [a, b] = true ∧ [a, b].all (fun t => Nat.blt t m.length) = true := by
  unfold stateS at h
  split at h
  · rename_i K1 xs K2 ys ha hb
    obtain ⟨hab, xs, _, ys, _, h⟩ := h
    refine ⟨xs, ys, h, ⟨ha, hb, trivial⟩, by simp [apartP, apart1, bne_beq hab], ?_⟩
    have la := nth_lt ha (fun e => by cases e)
    have lb := nth_lt hb (fun e => by cases e)
    simp [Nat.blt_eq, la, lb]
  · exact h.elim
theorem putSt_eq {a b : Nat} {m : List AM.Item} {xs ys : List Lk} {K : List AM.Item → Nat → Nat → Prop} (h : putSt a b m xs ys K) : K ((m.set a .gone).set b .gone ++ [.slc lockK xs, .slc lockK ys]) m.length (m.length + 1) := by
  unfold putSt at h
  simp only [setK_eq, snocK_eq, List.length_append, List.length_set, List.length_singleton, List.append_assoc] at h
  exact h
noncomputable def rgrantS (args : List AVal) (m : List AM.Item) (k : AVal → List AM.Item → Prop) : Prop := match args with
  | [.agg [.h a, .h b]] => stateS a b m fun xs ys => Need (xs.length + ys.length ≤ 1048576) (putSt a b m (grantL xs [] ys).1 (grantL xs [] ys).2.1 fun m1 n1 n2 => snocK m1 (.slc int55 (grantL xs [] ys).2.2) fun m2 n3 => k (.tup [(true, [.h n1, .h n2]), (false, [.h n3])]) m2)
  | _ => False
theorem rgrantS_ok {args : List AVal} {m : List AM.Item} {k : AVal → List AM.Item → Prop} (h : rgrantS args m k) : TripleF Try.prog 104 args m k := by
  unfold rgrantS at h
  split at h
  · rename_i a b
    obtain ⟨xs, ys, ⟨hl, h⟩, h1, h2, h3⟩ := stateS_get h
    have h := putSt_eq h
    rw [snocK_eq] at h
    refine frame_eff (rgrant_base xs ys hl) [a, b] rfl rfl h1 h2 h3 fun r m' hr _ => ?_
    obtain ⟨rfl, rfl⟩ := hr
    simp only [List.length_append, List.length_set, List.append_assoc] at h
    exact h
  · exact h.elim
noncomputable def rcancelS (args : List AVal) (m : List AM.Item) (k : AVal → List AM.Item → Prop) : Prop := match args with
  | [.agg [.h a, .h b], .sc (.int _ .i64 u)] => stateS a b m fun xs ys => Need (xs.length + ys.length ≤ 1048576) (putSt a b m (grantL xs [] (ys.filter (notB u))).1 (grantL xs [] (ys.filter (notB u))).2.1 fun m1 n1 n2 => snocK m1 (.slc int55 (grantL xs [] (ys.filter (notB u))).2.2) fun m2 n3 => k (.tup [(true, [.h n1, .h n2]), (false, [.h n3])]) m2)
  | _ => False
noncomputable def es103 (args : List AVal) (m : List AM.Item) : Option Eff := match args with
  | [.sc (.h t), .sc (.int _ .i64 u)] => match (nth m t .gone).row with
    | some ⟨K, xs⟩ => some ⟨K = lockK ∧ xs.length ≤ 1048576, [t], [], some (.slc lockK ((castL K xs).filter (notB u))), .sc (.h 0)⟩
    | none => none
  | _ => none
theorem es103_ok {args : List AVal} {m : List AM.Item} {e : Eff} (h : es103 args m = some e) (hn : e.need) : EffOk Try.prog 103 args m e := by
  unfold es103 at h
  split at h
  · rename_i t q u
    split at h
    · rename_i K xs hrow
      cases h
      obtain ⟨rfl, hx⟩ := hn
      have hg : nth m t .gone ≠ .gone := by intro e; rw [e] at hrow; cases hrow
      have l1 := nth_lt rfl hg
      intro m2 hl hag
      refine TripleF.std ?_
      exact eff_add (need := True) (rd := [t]) (without_base xs u hx) [t] rfl rfl (fun m2 hag => ⟨⟨lockK, xs, by rw [hag t (by simp [memb])]; exact hrow, rfl, rfl⟩, trivial⟩) rfl (by simp [Nat.blt_eq, l1]) (fun n => by rw [castL_eq]; rfl) (fun n => rfl) m2 hl hag
    · cases h
  · cases h
noncomputable def es47c (f : FuncId) (args : List AVal) (m : List AM.Item) : Option Eff := match f with
  | 103 => es103 args m
  | _ => none
theorem es47c_ok : ∀ f args m e, es47c f args m = some e → e.need → EffOk Try.prog f args m e := by
  intro f args m e h hn
  unfold es47c at h
  split at h
  · exact es103_ok h hn
  · cases h
def effs47c (f : FuncId) : Bool := match f with
  | 103 => true
  | _ => false
noncomputable def sp47e (f : FuncId) (args : List AVal) (m : List AM.Item) (k : AVal → List AM.Item → Prop) : Prop := match f with
  | 103 => filtS notB args m k
  | 104 => rgrantS args m k
  | _ => False
theorem sp47e_ok : ∀ f args m k, sp47e f args m k → TripleF Try.prog f args m k := by
  intro f args m k h
  unfold sp47e at h
  split at h
  · exact filtS_ok (fun xs u hx => without_base xs u hx) h
  · exact rgrantS_ok h
  · exact h.elim
noncomputable def E66 : Eng := mkEngX Try.prog kinds46b eqT qt46c sp47e noQ maps46 es47c effs47c
theorem E66_ok : E66.Ok := mkEngX_ok mixedT qt46cok sp47e_ok (fun _ _ _ _ _ h => by cases h) eqT_ok maps46_ok es47c_ok
theorem rcancel_base (held queue : List Lk) (u : Int) (hb : held.length + queue.length ≤ 1048576) : TripleF Try.prog 66 [.agg [.h 0, .h 1], .sc (.int false .i64 u)] [.slc lockK held, .slc lockK queue] (fun r m' => r = .tup [(true, [.h 2, .h 3]), (false, [.h 4])] ∧ m' = [.gone, .gone, .slc lockK (grantL held [] (queue.filter (notB u))).1, .slc lockK (grantL held [] (queue.filter (notB u))).2.1, .slc int55 (grantL held [] (queue.filter (notB u))).2.2]) := by
  refine triple_of_awp E66_ok Try.func66 rfl (by kernel_rfl) ?_
  conv => whnf
  refine Cast.mk _ _ (Need.mk (by omega) ?_)
  conv => whnf
  have hfl := List.length_filter_le (notB u) queue
  refine Need.mk (by decide) (Cast.mk _ _ (Cast.mk _ _ (Need.mk (by omega) ?_)))
  conv => whnf
  refine FinF.mk _ (.tup [(true, [.h 2, .h 3]), (false, [.h 4])]) [.gone, .gone, .slc lockK (grantL held [] (queue.filter (notB u))).1, .slc lockK (grantL held [] (queue.filter (notB u))).2.1, .slc int55 (grantL held [] (queue.filter (notB u))).2.2] [5, 6, 7] rfl rfl rfl ⟨trivial, trivial, rfl, rfl, rfl, trivial⟩ rfl (Nat.le_add_right 2 3) ⟨rfl, rfl⟩
theorem rrelease_base (held queue : List Lk) (u : Int) (hb : held.length + queue.length ≤ 1048576) : TripleF Try.prog 67 [.agg [.h 0, .h 1], .sc (.int false .i64 u)] [.slc lockK held, .slc lockK queue] (fun r m' => r = .tup [(true, [.h 2, .h 3]), (false, [.h 4])] ∧ m' = [.gone, .gone, .slc lockK (relL held queue u).1, .slc lockK (relL held queue u).2.1, .slc int55 (relL held queue u).2.2]) := by
  refine triple_of_awp E66_ok Try.func67 rfl (by kernel_rfl) ?_
  conv => whnf
  refine Need.mk ⟨rfl, by omega⟩ ?_
  conv => whnf
  refine Need.mk ⟨rfl, by omega⟩ ?_
  conv => whnf
  refine Need.mk (by kernel_rfl) ?_
  conv => whnf
  have hcl1 : castL lockK held = held := castL_eq held
  have hcl2 : castL lockK queue = queue := castL_eq queue
  have hf1 := List.length_filter_le (notB u) held
  have hf2 := List.length_filter_le (notB u) queue
  refine Need.mk (show 4 ≠ 5 by decide) (Cast.mk _ _ (Cast.mk _ _ (Need.mk (by rw [hcl1, hcl2]; omega) ?_)))
  conv => whnf
  refine FinF.mk _ (.tup [(true, [.h 2, .h 3]), (false, [.h 4])]) [.gone, .gone, .slc lockK (relL held queue u).1, .slc lockK (relL held queue u).2.1, .slc int55 (relL held queue u).2.2] [6, 7, 8] rfl rfl rfl ⟨trivial, trivial, ?_, ?_, ?_, trivial⟩ rfl (Nat.le_add_right 2 3) ⟨rfl, rfl⟩
  · show AM.Item.slc lockK (relL (castL lockK held) (castL lockK queue) u).1 = _
    rw [hcl1, hcl2]
  · show AM.Item.slc lockK (relL (castL lockK held) (castL lockK queue) u).2.1 = _
    rw [hcl1, hcl2]
  · show AM.Item.slc int55 (relL (castL lockK held) (castL lockK queue) u).2.2 = _
    rw [hcl1, hcl2]
theorem rcancelS_ok {args : List AVal} {m : List AM.Item} {k : AVal → List AM.Item → Prop} (h : rcancelS args m k) : TripleF Try.prog 66 args m k := by
  unfold rcancelS at h
  split at h
  · rename_i a b _ u
    obtain ⟨xs, ys, ⟨hl, h⟩, h1, h2, h3⟩ := stateS_get h
    have h := putSt_eq h
    rw [snocK_eq] at h
    refine TripleF.std (frame_eff (rcancel_base xs ys u hl) [a, b] rfl rfl h1 h2 h3 fun r m' hr _ => ?_)
    obtain ⟨rfl, rfl⟩ := hr
    simp only [List.length_append, List.length_set, List.append_assoc] at h
    exact h
  · exact h.elim
noncomputable def rreleaseS (args : List AVal) (m : List AM.Item) (k : AVal → List AM.Item → Prop) : Prop := match args with
  | [.agg [.h a, .h b], .sc (.int _ .i64 u)] => stateS a b m fun xs ys => Need (xs.length + ys.length ≤ 1048576) (putSt a b m (relL xs ys u).1 (relL xs ys u).2.1 fun m1 n1 n2 => snocK m1 (.slc int55 (relL xs ys u).2.2) fun m2 n3 => k (.tup [(true, [.h n1, .h n2]), (false, [.h n3])]) m2)
  | _ => False
theorem rreleaseS_ok {args : List AVal} {m : List AM.Item} {k : AVal → List AM.Item → Prop} (h : rreleaseS args m k) : TripleF Try.prog 67 args m k := by
  unfold rreleaseS at h
  split at h
  · rename_i a b _ u
    obtain ⟨xs, ys, ⟨hl, h⟩, h1, h2, h3⟩ := stateS_get h
    have h := putSt_eq h
    rw [snocK_eq] at h
    refine TripleF.std (frame_eff (rrelease_base xs ys u hl) [a, b] rfl rfl h1 h2 h3 fun r m' hr _ => ?_)
    obtain ⟨rfl, rfl⟩ := hr
    simp only [List.length_append, List.length_set, List.append_assoc] at h
    exact h
  · exact h.elim
end Go.Proofs.Ytljokmmgkecjbaa

namespace Go.Proofs.Ytljokmmgkecjbaa
open Go Go.AM
/-! the reference's blockers, sorted, each once, are the manager's -/
theorem ins_sorted (x : Int) : ∀ l : List Int, l.Pairwise (· < ·) → (insL x l).Pairwise (· < ·)
  | [], _ => by simp [insL]
  | y :: ys, h => by
    rw [List.pairwise_cons] at h
    unfold insL
    split
    · rename_i hy
      rw [List.pairwise_cons]
      refine ⟨fun z hz => ?_, ins_sorted x ys h.2⟩
      rw [ins_mem] at hz
      rcases hz with rfl | hz
      · exact hy
      · exact h.1 z hz
    · rename_i hy
      split
      · exact List.pairwise_cons.2 h
      · rename_i hn
        rw [List.pairwise_cons]
        refine ⟨fun z hz => ?_, List.pairwise_cons.2 h⟩
        rcases List.mem_cons.1 hz with rfl | hz
        · omega
        · have := h.1 z hz; omega
theorem set_sorted (xs : List Int) : (setL xs).Pairwise (· < ·) := by
  have key : ∀ (xs out : List Int), out.Pairwise (· < ·) → (xs.foldl (fun out x => insL x out) out).Pairwise (· < ·) := by
    intro xs
    induction xs with
    | nil => exact fun out h => h
    | cons x xs ih => exact fun out h => ih _ (ins_sorted x out h)
  exact key xs [] List.Pairwise.nil
theorem sorted_ext : ∀ {a b : List Int}, a.Pairwise (· < ·) → b.Pairwise (· < ·) → (∀ x, x ∈ a ↔ x ∈ b) → a = b
  | [], [], _, _, _ => rfl
  | [], y :: b, _, _, h => by have := (h y).2 (by simp); cases this
  | x :: a, [], _, _, h => by have := (h x).1 (by simp); cases this
  | x :: a, y :: b, ha, hb, h => by
    rw [List.pairwise_cons] at ha hb
    have hxy : x = y := by
      have h1 := (h x).1 (by simp)
      have h2 := (h y).2 (by simp)
      rcases List.mem_cons.1 h1 with e | h1
      · exact e
      · rcases List.mem_cons.1 h2 with e | h2
        · exact e.symm
        · have := hb.1 x h1; have := ha.1 y h2; omega
    subst hxy
    rw [sorted_ext ha.2 hb.2 fun z => ?_]
    constructor
    · intro hz
      rcases List.mem_cons.1 ((h z).1 (List.mem_cons_of_mem _ hz)) with e | h'
      · subst e; have := ha.1 z hz; omega
      · exact h'
    · intro hz
      rcases List.mem_cons.1 ((h z).2 (List.mem_cons_of_mem _ hz)) with e | h'
      · subst e; have := hb.1 z hz; omega
      · exact h'
theorem sortI_sorted {xs : List Int} (h : xs.Nodup) : (sortI xs).Pairwise (· < ·) := by
  have h1 : (sortI xs).Pairwise (fun a b => (decide (a ≤ b)) = true) := List.pairwise_mergeSort (fun a b c h1 h2 => by simp at *; omega) (fun a b => by simp; omega) xs
  have h2 : (sortI xs).Nodup := (List.mergeSort_perm xs _).nodup_iff.2 h
  refine List.Pairwise.imp₂ (fun a b h1 h2 => ?_) h1 h2
  have h1 := of_decide_eq_true h1
  have h2 : a ≠ b := h2
  omega
theorem put_nodup (S : List (Int × Bool)) (n : Int) (v : Bool) (h : (keysM S).Nodup) : (keysM (putL ibM S n v)).Nodup := by
  induction S with
  | nil => simp [putL, keysM]
  | cons p S ih =>
    obtain ⟨a, b⟩ := p
    rw [put_cons]
    have h' : a ∉ keysM S ∧ (keysM S).Nodup := by simpa [keysM] using h
    split
    · exact h
    · rename_i hn
      show (a :: keysM (putL ibM S n v)).Nodup
      rw [List.nodup_cons]
      refine ⟨fun hm => ?_, ih h'.2⟩
      rw [keys_put] at hm
      rcases hm with e | hm
      · exact hn e
      · exact h'.1 hm
theorem stepA_nodup {l : Lk} : ∀ (xs : List Lk) (acc : List (Int × Bool)), (keysM acc).Nodup → (keysM (xs.foldl (stepA l) acc)).Nodup
  | [], _, h => h
  | x :: xs, acc, h => by
    refine stepA_nodup xs _ ?_
    unfold stepA addK
    split
    · exact put_nodup _ _ _ h
    · exact h
theorem stepB_nodup {l : Lk} {own : List Lk} : ∀ (xs : List Lk) (acc : List (Int × Bool)), (keysM acc).Nodup → (keysM (xs.foldl (stepB l own) acc)).Nodup
  | [], _, h => h
  | x :: xs, acc, h => by
    refine stepB_nodup xs _ ?_
    unfold stepB addK
    split
    · exact put_nodup _ _ _ h
    · exact h
theorem wait_nodup (held queue : List Lk) (u : Int) : (keysM (waitM held queue u)).Nodup := by
  unfold waitM
  split
  · exact stepB_nodup _ _ (stepA_nodup _ _ List.nodup_nil)
  · exact List.nodup_nil
theorem blockers_eq (held queue : List Lk) (u : Int) : setL (rwaitL held queue u) = blockersL held queue u := by
  refine sorted_ext (set_sorted _) (sortI_sorted (wait_nodup _ _ _)) fun x => ?_
  rw [set_mem, blockersL, sortI, (List.mergeSort_perm _ _).mem_iff]
  unfold rwaitL waitM
  split
  · exact blocks_mem _ _ _ _
  · simp [keysM]
end Go.Proofs.Ytljokmmgkecjbaa

namespace Go.Proofs.Ytljokmmgkecjbaa
open Go Go.AM
def rcoveredS (args : List AVal) (m : List AM.Item) (k : AVal → List AM.Item → Prop) : Prop := match args with
  | [.agg [.h a, .h b], x] => match lkOf x with
    | some l => match (nth m a .gone).row, (nth m b .gone).row with
      | some ⟨K1, xs⟩, some ⟨K2, ys⟩ => Cast (K1 := lockK) K1 xs fun xs => Cast (K1 := lockK) K2 ys fun ys => k (.sc (.bool (xs.any (covB l)))) m
      | _, _ => False
    | none => False
  | _ => False
theorem rcoveredS_ok {args : List AVal} {m : List AM.Item} {k : AVal → List AM.Item → Prop} (h : rcoveredS args m k) : TripleF Try.prog 105 args m k := by
  unfold rcoveredS at h
  split at h
  · rename_i a b x
    split at h
    · rename_i l hl
      split at h
      · rename_i K1 xs K2 ys ha hb
        obtain ⟨xs, _, ys, _, h⟩ := h
        exact TripleF.arg (pre := [.agg [.h a, .h b]]) (post := []) (fun env v => lkOf_rep hl) (frame_ro2 (rcovered_base xs ys l) [a, b] rfl rfl ⟨⟨lockK, xs, ha, rfl, rfl⟩, ⟨lockK, ys, hb, rfl, rfl⟩, trivial⟩ fun r hr => hr ▸ h)
      · exact h.elim
    · exact h.elim
  · exact h.elim
noncomputable def rreachesS (args : List AVal) (m : List AM.Item) (k : AVal → List AM.Item → Prop) : Prop := match args with
  | [.agg [.h a, .h b], .sc (.h c), .sc (.int _ .i64 u)] => match (nth m a .gone).row, (nth m b .gone).row, (nth m c .gone).row with
      | some ⟨K1, xs⟩, some ⟨K2, ys⟩, some ⟨K3, fs⟩ => Cast (K1 := lockK) K1 xs fun xs => Cast (K1 := lockK) K2 ys fun ys => Cast (K1 := int55) K3 fs fun fs => Need (xs.length ≤ 1048576 ∧ ys.length ≤ 1048576 ∧ fs.length ≤ 4194304) (k (.sc (.bool (rreachB xs ys fs u))) m)
      | _, _, _ => False
  | _ => False
theorem rreachesS_ok {args : List AVal} {m : List AM.Item} {k : AVal → List AM.Item → Prop} (h : rreachesS args m k) : TripleF Try.prog 107 args m k := by
  unfold rreachesS at h
  split at h
  · rename_i a b c _ u
    split at h
    · rename_i K1 xs K2 ys K3 fs ha hb hc
      obtain ⟨xs, _, ys, _, fs, _, ⟨hx, hy, hf⟩, h⟩ := h
      exact TripleF.std (frame_ro2 (rreaches_base xs ys fs u hx hy hf) [a, b, c] rfl rfl ⟨⟨lockK, xs, ha, rfl, rfl⟩, ⟨lockK, ys, hb, rfl, rfl⟩, ⟨int55, fs, hc, rfl, rfl⟩, trivial⟩ fun r hr => hr ▸ h)
    · exact h.elim
  · exact h.elim
noncomputable def sp47f (f : FuncId) (args : List AVal) (m : List AM.Item) (k : AVal → List AM.Item → Prop) : Prop := match f with
  | 66 => rcancelS args m k
  | 67 => rreleaseS args m k
  | 69 => filtS ofB args m k
  | 105 => rcoveredS args m k
  | 106 => blocksS args m k
  | 107 => rreachesS args m k
  | _ => False
theorem sp47f_ok : ∀ f args m k, sp47f f args m k → TripleF Try.prog f args m k := by
  intro f args m k h
  unfold sp47f at h
  split at h
  · exact rcancelS_ok h
  · exact rreleaseS_ok h
  · exact filtS_ok (fun xs u hx => of69_base xs u hx) h
  · exact rcoveredS_ok h
  · exact blocksS_ok h
  · exact rreachesS_ok h
  · exact h.elim
noncomputable def E68 : Eng := mkEngX Try.prog kinds46b eqT qt46c sp47f noQ maps46 (fun _ _ _ => none) (fun _ => false)
theorem E68_ok : E68.Ok := mkEngX_ok mixedT qt46cok sp47f_ok (fun _ _ _ _ _ h => by cases h) eqT_ok maps46_ok (fun _ _ _ _ h => by cases h)
theorem filt_head {p : Lk → Bool} : ∀ {xs : List Lk}, xs.any p = true → (xs.filter p).getD 0 lk0 = xs.getD (xs.findIdx p) lk0 ∧ 0 < (xs.filter p).length
  | [], h => by simp at h
  | x :: xs, h => by
    cases hx : p x with
    | true => simp [List.filter_cons, List.findIdx_cons, hx]
    | false =>
      have h : xs.any p = true := by simpa [hx] using h
      have ih := filt_head h
      simp [List.filter_cons, List.findIdx_cons, hx] at ih ⊢
      exact ih
theorem filt_none {p : Lk → Bool} {xs : List Lk} (h : xs.any p = false) : xs.filter p = [] := by
  rw [List.filter_eq_nil_iff]
  intro x hx
  rw [List.any_eq_false] at h
  exact h x hx
theorem rreach_eq (held queue : List Lk) (l : Lk) : rreachB held queue (blocksL held queue l) l.u = reachB held queue (blkM held queue l) l.u := by
  rw [Bool.eq_iff_iff, rreachB, reach_yes, reach_yes]
  constructor
  · rintro ⟨k, hk, h⟩
    exact ⟨k, (blocks_mem _ _ _ _).1 (by simpa [keysM] using hk), h⟩
  · rintro ⟨k, hk, h⟩
    exact ⟨k, by simpa [keysM] using (blocks_mem _ _ _ _).2 hk, h⟩
/-! one region, whatever comes behind it -/
theorem viaK {E : Eng} {all l : List Oper} {m : List AM.Item} {ts : List AVal} {K0 : List AVal → Prop} (L : List AVal) (key : ∀ K : List AVal → Prop, K L → awpQ E all m l ts K) (h : K0 L) : awpQ E all m l ts K0 := key K0 h
theorem cond_br {E : Eng} {d : Nat} {a b : Code} {ts : List AVal} {m : List AM.Item} {Q : Exit → List AVal → List AM.Item → Prop} {t : Bool} (h0 : ev ts (.tmp d) = .sc (.bool t)) (hT : t = true → awp E a (ts.set d (.sc (.lb true))) m Q)
    (hF : t = false → awp E b (ts.set d (.sc (.lb false))) m Q) : awp E (.cond (.tmp d) a b) ts m Q := by
  simp only [awp, h0]
  exact Br.mk (fun h => by rw [setK_eq]; exact hT h) (fun h => by rw [setK_eq]; exact hF h)
set_option maxHeartbeats 4000000 in
theorem rrequest_base (held queue : List Lk) (l : Lk) (hb : held.length + queue.length < 1048576) : TripleF Try.prog 68 [.agg [.h 0, .h 1], l.A] [.slc lockK held, .slc lockK queue] (fun r m' => r = .tup [(true, [.h 2, .h 3]), (false, [.int false .i64 (reqL held queue l).1])] ∧ m' = [.gone, .gone, .slc lockK (reqL held queue l).2.1, .slc lockK (reqL held queue l).2.2]) := by
  refine triple_of_awp E68_ok Try.func68 rfl (by kernel_rfl) ?_
  obtain ⟨u, i, lo, hi, e, x⟩ := l
  simp only [Lk.A]
  conv => whnf
  refine Br.mk (fun c1 => ?_) (fun c1 => ?_)
  · have c1 : validL ⟨u, i, lo, hi, e, x⟩ = false := by
      have c1 : (!validL ⟨u, i, lo, hi, e, x⟩) = true := c1
      simpa using c1
    conv => whnf
    have hr : reqL held queue ⟨u, i, lo, hi, e, x⟩ = (1, held, queue) := by rw [reqL, c1]
    rw [hr]
    exact FinF.mk _ (.tup [(true, [.h 2, .h 3]), (false, [.int false .i64 1])]) [.gone, .gone, .slc lockK held, .slc lockK queue] [0, 1] rfl rfl rfl ⟨trivial, trivial, rfl, rfl, trivial⟩ rfl (Nat.le_add_right 2 2) ⟨rfl, rfl⟩
  · have c1 : validL ⟨u, i, lo, hi, e, x⟩ = true := by
      have c1 : (!validL ⟨u, i, lo, hi, e, x⟩) = false := c1
      simpa using c1
    conv => whnf
    refine Cast.mk _ _ ?_
    conv => whnf
    refine Cast.mk _ _ ?_
    conv => whnf
    refine Br.mk (fun c2 => ?_) (fun c2 => ?_)
    · have c2 : held.any (covB ⟨u, i, lo, hi, e, x⟩) = true := c2
      conv => whnf
      have hr : reqL held queue ⟨u, i, lo, hi, e, x⟩ = (0, held, queue) := by rw [reqL, c1, c2]
      rw [hr]
      exact FinF.mk _ (.tup [(true, [.h 2, .h 3]), (false, [.int false .i64 0])]) [.gone, .gone, .slc lockK held, .slc lockK queue] [0, 1] rfl rfl rfl ⟨trivial, trivial, rfl, rfl, trivial⟩ rfl (Nat.le_add_right 2 2) ⟨rfl, rfl⟩
    · have c2 : held.any (covB ⟨u, i, lo, hi, e, x⟩) = false := c2
      conv => whnf
      refine Cast.mk _ _ (Need.mk (by omega) ?_)
      generalize hW : queue.filter (ofB u) = W
      conv => whnf
      refine Know.mk fun _ => ?_
      conv => whnf
      refine Br.mk (fun c3 => ?_) (fun c3 => ?_)
      · have hany : queue.any (ofB u) = true := by
          cases h : queue.any (ofB u) with
          | true => rfl
          | false =>
            rw [filt_none h] at hW
            subst hW
            have c3 : decide (((([] : List Lk).length : Nat) : Int) > 0) = true := c3
            simp at c3
        obtain ⟨hhd, hWl⟩ := filt_head hany
        rw [hW] at hhd hWl
        rw [← nth_eq] at hhd
        conv => whnf
        refine Need.mk (by kernel_rfl) ?_
        apply viaK
        · intro K hK
          conv => whnf
          refine Need.mk (show 0 ≤ (0 : Int) ∧ (0 : Int) < ((W.length : Nat) : Int) from ⟨by omega, by omega⟩) ?_
          conv => whnf
          exact hK
        change awp E68 (.cond (.tmp 28) _ _) _ _ _
        refine cond_br rfl (fun c6 => ?_) (fun c6 => ?_)
        · have c6 : eqL (nth W 0 lk0) ⟨u, i, lo, hi, e, x⟩ = true := c6
          rw [hhd] at c6
          have hr : reqL held queue ⟨u, i, lo, hi, e, x⟩ = (15, held, queue) := by simp only [reqL, c1, c2, hany, c6]
          rw [hr]
          conv => whnf
          exact FinF.mk _ (.tup [(true, [.h 2, .h 3]), (false, [.int false .i64 15])]) [.gone, .gone, .slc lockK held, .slc lockK queue] [0, 1] rfl rfl rfl ⟨trivial, trivial, rfl, rfl, trivial⟩ rfl (Nat.le_add_right 2 2) ⟨rfl, rfl⟩
        · have c6 : eqL (nth W 0 lk0) ⟨u, i, lo, hi, e, x⟩ = false := c6
          rw [hhd] at c6
          conv => whnf
          refine Need.mk (show 0 ≠ 1 by decide) (Cast.mk _ _ (Cast.mk _ _ (Need.mk (by omega) ?_)))
          have hr : reqL held queue ⟨u, i, lo, hi, e, x⟩ = askL (grantL held [] (queue.filter (notB u))).1 (grantL held [] (queue.filter (notB u))).2.1 ⟨u, i, lo, hi, e, x⟩ := by simp only [reqL, c1, c2, hany, c6]
          have hgl := grantL_len held [] (queue.filter (notB u))
          have hfl := List.length_filter_le (notB u) queue
          simp only [List.length_nil] at hgl
          generalize (grantL held [] (queue.filter (notB u))).1 = xs at hr hgl ⊢
          generalize (grantL held [] (queue.filter (notB u))).2.1 = ys at hr hgl ⊢
          conv => whnf
          refine Know.mk fun _ => ?_
          conv => whnf
          refine Cast.mk _ _ ?_
          conv => whnf
          refine Cast.mk _ _ ?_
          conv => whnf
          refine Need.mk (show 0 ≤ (ys.length : Int) ∧ (ys.length : Int).toNat ≤ ys.length ∧ xs.length ≤ 1048576 ∧ ys.length ≤ 1048576 from ⟨by omega, by omega, by omega, by omega⟩) ?_
          have hB : blocksL xs (ys.take (ys.length : Int).toNat) ⟨u, i, lo, hi, e, x⟩ = blocksL xs ys ⟨u, i, lo, hi, e, x⟩ := by rw [Int.toNat_natCast, List.take_length]
          have hBe := blocks_empty xs ys ⟨u, i, lo, hi, e, x⟩
          have hBr := rreach_eq xs ys ⟨u, i, lo, hi, e, x⟩
          have hBl := blocks_len xs ys ⟨u, i, lo, hi, e, x⟩
          generalize blocksL xs (ys.take (ys.length : Int).toNat) ⟨u, i, lo, hi, e, x⟩ = B at hB
          conv => whnf
          refine Know.mk fun _ => ?_
          conv => whnf
          refine Br.mk (fun c4 => ?_) (fun c4 => ?_)
          · have c4 : ((B.length : Int) == 0) = true := c4
            have he : (blkM xs ys ⟨u, i, lo, hi, e, x⟩).isEmpty = true := by
              rw [← hBe, ← hB]
              cases B with
              | nil => rfl
              | cons _ _ => simp at c4; omega
            have hr2 : askL xs ys ⟨u, i, lo, hi, e, x⟩ = (0, xs ++ [⟨u, i, lo, hi, e, x⟩], ys) := by rw [askL, he]
            rw [hr, hr2]
            conv => whnf
            refine Cast.mk _ _ ?_
            conv => whnf
            refine Need.mk ?_ ?_
            · have hz : (0 + xs.length) * 64 ≤ 140737488355328 := by omega
              exact hz
            conv => whnf
            refine Cast.mk _ _ ?_
            conv => whnf
            refine Need.mk ?_ ?_
            · rw [List.nil_append]
              have hz : (xs.length + 1) * 64 ≤ 140737488355328 := by omega
              exact hz
            conv => whnf
            refine Need.mk (by kernel_rfl) ?_
            conv => whnf
            exact FinF.mk _ (.tup [(true, [.h 2, .h 3]), (false, [.int false .i64 0])]) [.gone, .gone, .slc lockK (xs ++ [⟨u, i, lo, hi, e, x⟩]), .slc lockK ys] [13, 7] rfl rfl rfl ⟨trivial, trivial, rfl, rfl, trivial⟩ rfl (Nat.le_add_right 2 2) ⟨rfl, rfl⟩
          · have c4 : ((B.length : Int) == 0) = false := c4
            have he : (blkM xs ys ⟨u, i, lo, hi, e, x⟩).isEmpty = false := by
              rw [← hBe, ← hB]
              cases B with
              | nil => simp at c4
              | cons _ _ => rfl
            conv => whnf
            refine Cast.mk _ _ ?_
            conv => whnf
            refine Cast.mk _ _ ?_
            conv => whnf
            refine Cast.mk _ _ ?_
            conv => whnf
            refine Need.mk (show xs.length ≤ 1048576 ∧ ys.length ≤ 1048576 ∧ B.length ≤ 4194304 from ⟨by omega, by omega, by rw [hB]; omega⟩) ?_
            conv => whnf
            refine Br.mk (fun c5 => ?_) (fun c5 => ?_)
            · have c5 : rreachB xs ys B u = true := c5
              rw [hB, hBr] at c5
              conv => whnf
              have hr2 : askL xs ys ⟨u, i, lo, hi, e, x⟩ = (16, xs, ys) := by simp only [askL, he, c5]
              rw [hr, hr2]
              exact FinF.mk _ (.tup [(true, [.h 2, .h 3]), (false, [.int false .i64 16])]) [.gone, .gone, .slc lockK xs, .slc lockK ys] [6, 7] rfl rfl rfl ⟨trivial, trivial, rfl, rfl, trivial⟩ rfl (Nat.le_add_right 2 2) ⟨rfl, rfl⟩
            · have c5 : rreachB xs ys B u = false := c5
              rw [hB, hBr] at c5
              conv => whnf
              have hr2 : askL xs ys ⟨u, i, lo, hi, e, x⟩ = (15, xs, ys ++ [⟨u, i, lo, hi, e, x⟩]) := by simp only [askL, he, c5]
              rw [hr, hr2]
              refine Cast.mk _ _ ?_
              conv => whnf
              refine Need.mk ?_ ?_
              · have hz : (0 + ys.length) * 64 ≤ 140737488355328 := by omega
                exact hz
              conv => whnf
              refine Cast.mk _ _ ?_
              conv => whnf
              refine Need.mk ?_ ?_
              · rw [List.nil_append]
                have hz : (ys.length + 1) * 64 ≤ 140737488355328 := by omega
                exact hz
              conv => whnf
              refine Need.mk (by kernel_rfl) ?_
              conv => whnf
              exact FinF.mk _ (.tup [(true, [.h 2, .h 3]), (false, [.int false .i64 15])]) [.gone, .gone, .slc lockK xs, .slc lockK (ys ++ [⟨u, i, lo, hi, e, x⟩])] [6, 13] rfl rfl rfl ⟨trivial, trivial, rfl, rfl, trivial⟩ rfl (Nat.le_add_right 2 2) ⟨rfl, rfl⟩
      · have c3 : decide (((W.length : Nat) : Int) > 0) = false := c3
        have hany : queue.any (ofB u) = false := by
          cases h : queue.any (ofB u) with
          | false => rfl
          | true =>
            have h1 := (filt_head h).2
            rw [hW] at h1
            have h2 := of_decide_eq_false c3
            exact absurd h2 (by omega)
        have hr : reqL held queue ⟨u, i, lo, hi, e, x⟩ = askL held queue ⟨u, i, lo, hi, e, x⟩ := by simp only [reqL, c1, c2, hany]
        conv => whnf
        refine Know.mk fun _ => ?_
        conv => whnf
        refine Cast.mk _ _ ?_
        conv => whnf
        refine Cast.mk _ _ ?_
        conv => whnf
        refine Need.mk (show 0 ≤ (queue.length : Int) ∧ (queue.length : Int).toNat ≤ queue.length ∧ held.length ≤ 1048576 ∧ queue.length ≤ 1048576 from ⟨by omega, by omega, by omega, by omega⟩) ?_
        have hB : blocksL held (queue.take (queue.length : Int).toNat) ⟨u, i, lo, hi, e, x⟩ = blocksL held queue ⟨u, i, lo, hi, e, x⟩ := by rw [Int.toNat_natCast, List.take_length]
        have hBe := blocks_empty held queue ⟨u, i, lo, hi, e, x⟩
        have hBr := rreach_eq held queue ⟨u, i, lo, hi, e, x⟩
        have hBl := blocks_len held queue ⟨u, i, lo, hi, e, x⟩
        generalize blocksL held (queue.take (queue.length : Int).toNat) ⟨u, i, lo, hi, e, x⟩ = B at hB
        conv => whnf
        refine Know.mk fun _ => ?_
        conv => whnf
        refine Br.mk (fun c4 => ?_) (fun c4 => ?_)
        · have c4 : ((B.length : Int) == 0) = true := c4
          have he : (blkM held queue ⟨u, i, lo, hi, e, x⟩).isEmpty = true := by
            rw [← hBe, ← hB]
            cases B with
            | nil => rfl
            | cons _ _ => simp at c4; omega
          have hr2 : askL held queue ⟨u, i, lo, hi, e, x⟩ = (0, held ++ [⟨u, i, lo, hi, e, x⟩], queue) := by rw [askL, he]
          rw [hr, hr2]
          conv => whnf
          refine Cast.mk _ _ ?_
          conv => whnf
          refine Need.mk ?_ ?_
          · have hz : (0 + held.length) * 64 ≤ 140737488355328 := by omega
            exact hz
          conv => whnf
          refine Cast.mk _ _ ?_
          conv => whnf
          refine Need.mk ?_ ?_
          · rw [List.nil_append]
            have hz : (held.length + 1) * 64 ≤ 140737488355328 := by omega
            exact hz
          conv => whnf
          refine Need.mk (by kernel_rfl) ?_
          conv => whnf
          exact FinF.mk _ (.tup [(true, [.h 2, .h 3]), (false, [.int false .i64 0])]) [.gone, .gone, .slc lockK (held ++ [⟨u, i, lo, hi, e, x⟩]), .slc lockK queue] [10, 1] rfl rfl rfl ⟨trivial, trivial, rfl, rfl, trivial⟩ rfl (Nat.le_add_right 2 2) ⟨rfl, rfl⟩
        · have c4 : ((B.length : Int) == 0) = false := c4
          have he : (blkM held queue ⟨u, i, lo, hi, e, x⟩).isEmpty = false := by
            rw [← hBe, ← hB]
            cases B with
            | nil => simp at c4
            | cons _ _ => rfl
          conv => whnf
          refine Cast.mk _ _ ?_
          conv => whnf
          refine Cast.mk _ _ ?_
          conv => whnf
          refine Cast.mk _ _ ?_
          conv => whnf
          refine Need.mk (show held.length ≤ 1048576 ∧ queue.length ≤ 1048576 ∧ B.length ≤ 4194304 from ⟨by omega, by omega, by rw [hB]; omega⟩) ?_
          conv => whnf
          refine Br.mk (fun c5 => ?_) (fun c5 => ?_)
          · have c5 : rreachB held queue B u = true := c5
            rw [hB, hBr] at c5
            conv => whnf
            have hr2 : askL held queue ⟨u, i, lo, hi, e, x⟩ = (16, held, queue) := by simp only [askL, he, c5]
            rw [hr, hr2]
            exact FinF.mk _ (.tup [(true, [.h 2, .h 3]), (false, [.int false .i64 16])]) [.gone, .gone, .slc lockK held, .slc lockK queue] [0, 1] rfl rfl rfl ⟨trivial, trivial, rfl, rfl, trivial⟩ rfl (Nat.le_add_right 2 2) ⟨rfl, rfl⟩
          · have c5 : rreachB held queue B u = false := c5
            rw [hB, hBr] at c5
            conv => whnf
            have hr2 : askL held queue ⟨u, i, lo, hi, e, x⟩ = (15, held, queue ++ [⟨u, i, lo, hi, e, x⟩]) := by simp only [askL, he, c5]
            rw [hr, hr2]
            refine Cast.mk _ _ ?_
            conv => whnf
            refine Need.mk ?_ ?_
            · have hz : (0 + queue.length) * 64 ≤ 140737488355328 := by omega
              exact hz
            conv => whnf
            refine Cast.mk _ _ ?_
            conv => whnf
            refine Need.mk ?_ ?_
            · rw [List.nil_append]
              have hz : (queue.length + 1) * 64 ≤ 140737488355328 := by omega
              exact hz
            conv => whnf
            refine Need.mk (by kernel_rfl) ?_
            conv => whnf
            exact FinF.mk _ (.tup [(true, [.h 2, .h 3]), (false, [.int false .i64 15])]) [.gone, .gone, .slc lockK held, .slc lockK (queue ++ [⟨u, i, lo, hi, e, x⟩])] [0, 10] rfl rfl rfl ⟨trivial, trivial, rfl, rfl, trivial⟩ rfl (Nat.le_add_right 2 2) ⟨rfl, rfl⟩
end Go.Proofs.Ytljokmmgkecjbaa

namespace Go.Proofs.Ytljokmmgkecjbaa
open Go Go.AM
/-! calls as effects, for the regions that draw their order -/
open Classical in
noncomputable def castTo (K0 K : Kind) (xs : List K.T) : List K0.T := if h : K = K0 then (h ▸ xs : List K0.T) else []
theorem castTo_eq (K0 : Kind) (xs : List K0.T) : castTo K0 K0 xs = xs := by simp [castTo]
noncomputable def esMgr (K : Kind) (G : List Lk → List Lk → Int → List K.T) (P : List Lk → List Lk → Prop) (args : List AVal) (m : List AM.Item) : Option Eff := match args with
  | [.sc (.fld t 0), .sc (.int _ .i64 u)] => match nth m t .gone with
    | .box 112 [.h a, .h b] => match nth m a .gone, nth m b .gone with
      | .slc K1 xs, .slc K2 ys => some ⟨a ≠ b ∧ K1 = lockK ∧ K2 = lockK ∧ P (castL K1 xs) (castL K2 ys), [t, a, b], [], some (.slc K (G (castL K1 xs) (castL K2 ys) u)), .sc (.h 0)⟩
      | _, _ => none
    | _ => none
  | _ => none
theorem esMgr_ok {K : Kind} {G : List Lk → List Lk → Int → List K.T} {P : List Lk → List Lk → Prop} {f : FuncId}
    (hT : ∀ xs ys u, P xs ys → TripleF Try.prog f [.sc (.fld 0 0), .sc (.int false .i64 u)] (mgr xs ys) (fun r m' => r = .sc (.h 3) ∧ m' = mgr xs ys ++ [.slc K (G xs ys u)]))
    {args : List AVal} {m : List AM.Item} {e : Eff} (h : esMgr K G P args m = some e) (hn : e.need) : EffOk Try.prog f args m e := by
  unfold esMgr at h
  split at h
  · rename_i t _ u
    split at h
    · rename_i a b ht
      split at h
      · rename_i K1 xs K2 ys ha hb
        have hta : t ≠ a := by intro e; subst e; rw [ht] at ha; cases ha
        have htb : t ≠ b := by intro e; subst e; rw [ht] at hb; cases hb
        have l1 := nth_lt ht (fun e => by cases e)
        have l2 := nth_lt ha (fun e => by cases e)
        have l3 := nth_lt hb (fun e => by cases e)
        cases h
        obtain ⟨hab, rfl, rfl, hP⟩ := hn
        rw [castL_eq, castL_eq] at hP
        intro m2 hl hag
        refine TripleF.std ?_
        refine eff_add (need := True) (rd := [t, a, b]) (hT xs ys u hP) [t, a, b] rfl rfl (fun m2 hag => ⟨rfl, ?_, ?_, ?_, trivial⟩) ?_ ?_ (fun n => by rw [castL_eq, castL_eq]; rfl) (fun n => rfl) m2 hl hag
        · exact (hag t (by simp [memb])).trans ht
        · refine (hag a ?_).trans ha
          simp only [memb, bne_beq (Ne.symm hta)]
          rw [show Nat.beq a a = true from Nat.beq_refl a]
        · refine (hag b ?_).trans hb
          simp only [memb, bne_beq (Ne.symm htb), bne_beq (Ne.symm hab)]
          rw [show Nat.beq b b = true from Nat.beq_refl b]
        · simp [mgr, apartP, apart1, bne_beq hta, bne_beq htb, bne_beq hab]
        · simp [Nat.blt_eq, l1, l2, l3]
      · cases h
    · cases h
  · cases h
noncomputable def esRow (K0 K : Kind) (G : List K0.T → Int → List K.T) (P : List K0.T → Prop) (args : List AVal) (m : List AM.Item) : Option Eff := match args with
  | [.sc (.h t), .sc (.int _ .i64 u)] => match (nth m t .gone).row with
    | some ⟨K1, xs⟩ => some ⟨K1 = K0 ∧ P (castTo K0 K1 xs), [t], [], some (.slc K (G (castTo K0 K1 xs) u)), .sc (.h 0)⟩
    | none => none
  | _ => none
theorem esRow_ok {K0 K : Kind} {G : List K0.T → Int → List K.T} {P : List K0.T → Prop} {f : FuncId}
    (hT : ∀ xs u, P xs → TripleF Try.prog f [.sc (.h 0), .sc (.int false .i64 u)] [.ro K0 xs] (fun r m' => r = .sc (.h 1) ∧ m' = [.ro K0 xs, .slc K (G xs u)]))
    {args : List AVal} {m : List AM.Item} {e : Eff} (h : esRow K0 K G P args m = some e) (hn : e.need) : EffOk Try.prog f args m e := by
  unfold esRow at h
  split at h
  · rename_i t q u
    split at h
    · rename_i K1 xs hrow
      cases h
      obtain ⟨rfl, hx⟩ := hn
      rw [castTo_eq] at hx
      have hg : nth m t .gone ≠ .gone := by intro e; rw [e] at hrow; cases hrow
      have l1 := nth_lt rfl hg
      intro m2 hl hag
      refine TripleF.std ?_
      exact eff_add (need := True) (rd := [t]) (hT xs u hx) [t] rfl rfl (fun m2 hag => ⟨⟨K1, xs, by rw [hag t (by simp [memb])]; exact hrow, rfl, rfl⟩, trivial⟩) rfl (by simp [Nat.blt_eq, l1]) (fun n => by rw [castTo_eq]; rfl) (fun n => rfl) m2 hl hag
    · cases h
  · cases h
noncomputable def esRow1 (K0 K : Kind) (G : List K0.T → List K.T) (P : List K0.T → Prop) (args : List AVal) (m : List AM.Item) : Option Eff := match args with
  | [.sc (.h t)] => match (nth m t .gone).row with
    | some ⟨K1, xs⟩ => some ⟨K1 = K0 ∧ P (castTo K0 K1 xs), [t], [], some (.slc K (G (castTo K0 K1 xs))), .sc (.h 0)⟩
    | none => none
  | _ => none
theorem esRow1_ok {K0 K : Kind} {G : List K0.T → List K.T} {P : List K0.T → Prop} {f : FuncId}
    (hT : ∀ xs, P xs → TripleF Try.prog f [.sc (.h 0)] [.ro K0 xs] (fun r m' => r = .sc (.h 1) ∧ m' = [.ro K0 xs, .slc K (G xs)]))
    {args : List AVal} {m : List AM.Item} {e : Eff} (h : esRow1 K0 K G P args m = some e) (hn : e.need) : EffOk Try.prog f args m e := by
  unfold esRow1 at h
  split at h
  · rename_i t
    split at h
    · rename_i K1 xs hrow
      cases h
      obtain ⟨rfl, hx⟩ := hn
      rw [castTo_eq] at hx
      have hg : nth m t .gone ≠ .gone := by intro e; rw [e] at hrow; cases hrow
      have l1 := nth_lt rfl hg
      intro m2 hl hag
      refine TripleF.std ?_
      exact eff_add (need := True) (rd := [t]) (hT xs hx) [t] rfl rfl (fun m2 hag => ⟨⟨K1, xs, by rw [hag t (by simp [memb])]; exact hrow, rfl, rfl⟩, trivial⟩) rfl (by simp [Nat.blt_eq, l1]) (fun n => by rw [castTo_eq]; rfl) (fun n => rfl) m2 hl hag
    · cases h
  · cases h
/-! equal rows, in the regions that draw their order -/
noncomputable def eqQ (K0 : Kind) (args : List AVal) (m : List AM.Item) : Option (Prop × AVal) := match args with
  | [.sc (.h a), .sc (.h b)] => match (nth m a .gone).row, (nth m b .gone).row with
    | some ⟨K1, xs⟩, some ⟨K2, ys⟩ => some (K1 = K0 ∧ K2 = K0 ∧ castTo K0 K1 xs = castTo K0 K2 ys, .sc (.bool true))
    | _, _ => none
  | _ => none
theorem row_le {m m2 : List AM.Item} (hle : LeM m m2) {t : Nat} {K : Kind} {xs : List K.T} (h : (nth m t .gone).row = some ⟨K, xs⟩) : (nth m2 t .gone).row = some ⟨K, xs⟩ := by
  have hn : m[t]? = some (nth m t .gone) := nth_some rfl (by intro e; rw [e] at h; cases h)
  have hn2 := hle.2 t _ hn (by
    cases hit : nth m t Item.gone with
    | gone => rw [hit] at h; cases h
    | _ => rfl)
  rw [show nth m2 t .gone = nth m t .gone from by rw [nth_eq, List.getD_eq_getElem?_getD, hn2]; rfl]
  exact h
theorem eqQ_ok {K0 : Kind} {f : FuncId} (hT : ∀ xs : List K0.T, TripleF Try.prog f [.sc (.h 0), .sc (.h 1)] [.ro K0 xs, .ro K0 xs] (fun r _ => r = .sc (.bool true) ∧ r.below 0 = true)) {args : List AVal} {m : List AM.Item} {p : Prop} {r : AVal}
    (h : eqQ K0 args m = some (p, r)) (hp : p) {m2 : List AM.Item} (hle : LeM m m2) : TripleF Try.prog f args m2 fun r' m' => r' = r ∧ m' = m2 := by
  unfold eqQ at h
  split at h
  · rename_i a b
    split at h
    · rename_i K1 xs K2 ys ha hb
      cases h
      obtain ⟨rfl, rfl, he⟩ := hp
      rw [castTo_eq, castTo_eq] at he
      subst he
      exact frame_ro2 (hT xs) [a, b] rfl rfl ⟨⟨K2, xs, row_le hle ha, rfl, rfl⟩, ⟨K2, xs, row_le hle hb, rfl, rfl⟩, trivial⟩ fun r hr => ⟨hr, rfl⟩
    · cases h
  · cases h
end Go.Proofs.Ytljokmmgkecjbaa
