/- For every input the law LockCalls returns true, and each argument reads as before; no further condition. -/
import Derived.Test.YtljokmmgkecjbaaQj
import Derived.Test.YtljokmmgkecjbaaQf
import Derived.Test.YtljokmmgkecjbaaQb
import Derived.Test.YtljokmmgkecjbaaRows
set_option linter.unusedVariables false
set_option linter.unusedSimpArgs false
set_option maxRecDepth 100000
namespace Go.Proofs.Ytljokmmgkecjbaa
open Go Go.AM
noncomputable def rrequestS (args : List AVal) (m : List AM.Item) (k : AVal → List AM.Item → Prop) : Prop := match args with
  | [.agg [.h a, .h b], x] => match lkOf x with
    | some l => stateS a b m fun xs ys => Need (xs.length + ys.length < 1048576) (putSt a b m (reqL xs ys l).2.1 (reqL xs ys l).2.2 fun m1 n1 n2 => k (.tup [(true, [.h n1, .h n2]), (false, [.int false .i64 (reqL xs ys l).1])]) m1)
    | none => False
  | _ => False
theorem rrequestS_ok {args : List AVal} {m : List AM.Item} {k : AVal → List AM.Item → Prop} (h : rrequestS args m k) : TripleF Try.prog 68 args m k := by
  unfold rrequestS at h
  split at h
  · rename_i a b x
    split at h
    · rename_i l hl
      obtain ⟨xs, ys, ⟨hlen, h⟩, h1, h2, h3⟩ := stateS_get h
      have h := putSt_eq h
      refine TripleF.arg (pre := [.agg [.h a, .h b]]) (post := []) (fun env v => lkOf_rep hl) (frame_eff (rrequest_base xs ys l hlen) [a, b] rfl ?_ h1 h2 h3 fun r m' hr _ => ?_)
      · simp [Lk.A, AVal.below, Sc.below]
      obtain ⟨rfl, rfl⟩ := hr
      exact h
    · exact h.elim
  · exact h.elim
noncomputable def sp15 (f : FuncId) (args : List AVal) (m : List AM.Item) (k : AVal → List AM.Item → Prop) : Prop := match f with
  | 59 => eqS lockK args m k
  | 65 => eqS int55 args m k
  | 66 => rcancelS args m k
  | 67 => rreleaseS args m k
  | 68 => rrequestS args m k
  | 69 => filtS ofB args m k
  | f => sp46g f args m k
theorem sp15_ok : ∀ f args m k, sp15 f args m k → TripleF Try.prog f args m k := by
  intro f args m k h
  unfold sp15 at h
  split at h
  · exact eqS_ok locks_base h
  · exact eqS_ok ints_base h
  · exact rcancelS_ok h
  · exact rreleaseS_ok h
  · exact rrequestS_ok h
  · exact filtS_ok (fun xs u hx => of69_base xs u hx) h
  · exact sp46g_ok _ _ _ _ h
noncomputable def es15 (f : FuncId) (args : List AVal) (m : List AM.Item) : Option Eff := match f with
  | 52 => esMgr int55 blockersL (fun xs ys => xs.length ≤ 1048576 ∧ ys.length ≤ 1048576 ∧ okU (xs ++ ys)) args m
  | 62 => esMgr lockK (fun xs _ u => xs.filter (ofB u)) (fun xs _ => xs.length ≤ 1048576) args m
  | 69 => esRow lockK lockK (fun xs u => xs.filter (ofB u)) (fun xs => xs.length ≤ 1048576) args m
  | 70 => esRow1 int55 int55 setL (fun xs => xs.length ≤ 1048576) args m
  | 71 => es71 args m
  | _ => none
theorem es15_ok : ∀ f args m e, es15 f args m = some e → e.need → EffOk Try.prog f args m e := by
  intro f args m e h hn
  unfold es15 at h
  split at h
  · exact esMgr_ok (fun xs ys u hp => blockers_base xs ys u hp.1 hp.2.1 hp.2.2) h hn
  · exact esMgr_ok (fun xs ys u hp => Held_base xs ys u hp) h hn
  · exact esRow_ok (fun xs u hp => of69_base xs u hp) h hn
  · exact esRow1_ok (fun xs hp => set_base xs hp) h hn
  · exact es71_ok h hn
  · cases h
def effs15 (f : FuncId) : Bool := match f with
  | 52 => true
  | 62 => true
  | 69 => true
  | 70 => true
  | 71 => true
  | _ => false
noncomputable def qs15 (f : FuncId) (args : List AVal) (m : List AM.Item) : Option (Prop × AVal) := match f with
  | 59 => eqQ lockK args m
  | 65 => eqQ int55 args m
  | _ => none
theorem qs15_ok : ∀ f args m p r, qs15 f args m = some (p, r) → p → ∀ m2, LeM m m2 → TripleF Try.prog f args m2 fun r' m' => r' = r ∧ m' = m2 := by
  intro f args m p r h hp m2 hle
  unfold qs15 at h
  split at h
  · exact eqQ_ok locks_base h hp hle
  · exact eqQ_ok ints_base h hp hle
  · cases h
noncomputable def E15 : Eng := mkEngX Try.prog kinds46b eqT qt46e sp15 qs15 maps46 es15 effs15
theorem E15_ok : E15.Ok := mkEngX_ok mixedT qt46eok sp15_ok qs15_ok eqT_ok maps46_ok es15_ok
theorem neT {b : Bool} (h : b = false) : b ≠ true := by rw [h]; decide
theorem neF {b : Bool} (h : b = true) : b ≠ false := by rw [h]; decide
theorem wf_okU {held queue : List Lk} (h : WF held queue) : okU (held ++ queue) := by
  intro x hx
  rcases List.mem_append.1 hx with hx | hx
  · have := valid_parts (h.vh x hx)
    omega
  · have := valid_parts (h.vq x hx)
    omega
set_option maxHeartbeats 4000000 in
theorem calls_base (acts : List Ac) : TripleF Try.prog 15 [.sc (.h 0)] [.ro actK acts] (fun r _ => r = .sc (.bool true) ∧ r.below 0 = true) := by
  refine base_of_awp (R := fun r => r = .sc (.bool true)) E15_ok Try.func15 rfl (by kernel_rfl) ?_
  conv => whnf
  refine Cast.mk _ _ ?_
  conv => whnf
  refine Br.mk (fun c1 => ?_) (fun c1 => ?_)
  · conv => whnf
  have c1 : fewA acts 50 = true := by
    have c1 : (!fewA acts 50) = false := c1
    simpa using c1
  have hl50 := few_len c1
  conv => whnf
  refine Know.mk fun hlen => ?_
  have hlen : acts.length ≤ 9223372036854775807 := hlen
  conv => whnf
  refine LoopF.tell (.nilB 4 0 lockK) _ _ (And.intro rfl rfl) ?_
  refine LoopF.tell (.nilB 4 1 lockK) _ _ (And.intro rfl rfl) ?_
  refine LoopF.inv Nat (fun k => k ≤ acts.length) (fun k => [(28, .sc (.int false .i64 (k : Int)))]) (fun k => acts.length - k)
    (fun k => [.ro actK acts, .box 112 [.h 7, .h 8], .gone, .gone, .box 76 [.h 9, .h 10], .gone, .gone, .slc lockK (playL (acts.take k)).1, .slc lockK (playL (acts.take k)).2, .slc lockK (playL (acts.take k)).1, .slc lockK (playL (acts.take k)).2]) (fun _ => Nat.le_add_right 7 4) 0 [2, 3, 5, 6]
    (Nat.zero_le _) ⟨⟨⟨rfl, rfl⟩, trivial⟩, ⟨rfl, ⟨rfl, rfl⟩, trivial, trivial, ⟨rfl, rfl⟩, trivial, trivial, rfl, rfl, rfl, rfl, trivial⟩, rfl⟩ ?_
  rintro k h1
  have hpl := play_len (acts.take k)
  rw [List.length_take] at hpl
  have hps : k < acts.length → playL (acts.take (k + 1)) = _ := fun hk => play_snoc hk
  have hwf := play_wf (acts.take k)
  generalize hS : playL (acts.take k) = S at hpl hps hwf
  obtain ⟨H, Q⟩ := S
  have hpl : H.length + Q.length ≤ min k acts.length := hpl
  have hwf : WF H Q := hwf
  conv => whnf
  refine Br.mk (fun c2 => ?_) (fun c2 => ?_)
  · have hk := ltN c2
    have hps := hps hk
    refine Need.mk (show 0 ≤ (k : Int) ∧ (k : Int) < (acts.length : Nat) from ⟨by omega, by omega⟩) ?_
    conv => whnf
    generalize hA : nth acts ((k : Int)).toNat actK.d = A
    have hA : nth acts k ac0 = A := hA
    rw [← nth_eq, hA] at hps
    obtain ⟨ak, au, ai, alo, ahi, ae, ax⟩ := A
    have hwf := do_wf (a := ⟨ak, au, ai, alo, ahi, ae, ax⟩) hwf
    have hdl := do_len H Q ⟨ak, au, ai, alo, ahi, ae, ax⟩
    refine Need.mk (show 7 ≠ 8 by decide) (Cast.mk _ _ (Cast.mk _ _ (Need.mk (by omega) ?_)))
    generalize hD : doL H Q ⟨ak, au, ai, alo, ahi, ae, ax⟩ = D at hwf hdl hps
    conv => whnf
    refine Br.mk (fun c3 => ?_) (fun c3 => ?_)
    · have c3 : (ak.tmod 3 == 1) = true := c3
      have hd : D = ⟨0, (grantL H [] (Q.filter (notB au))).1, (grantL H [] (Q.filter (notB au))).2.1, (grantL H [] (Q.filter (notB au))).2.2⟩ := by
        rw [← hD]; unfold doL; simp only [c3]
      conv => whnf
      have hfl := List.length_filter_le (notB au) Q
      refine Need.mk (show 9 ≠ 10 by decide) (Cast.mk _ _ (Cast.mk _ _ (Need.mk (by omega) ?_)))
      generalize hG : grantL H [] (Q.filter (notB au)) = G at hd ⊢
      obtain ⟨G1, G2, G3⟩ := G
      subst hd
      have hwf : WF G1 G2 := hwf
      have hdl : G1.length + G2.length ≤ H.length + Q.length + 1 := hdl
      have hps : playL (acts.take (k + 1)) = (G1, G2) := hps
      conv => whnf
      refine Need.mk (by decide) ?_
      refine (Cast.mk _ _ (Cast.mk _ _ (Need.mk (show G1.length ≤ 1048576 ∧ G2.length ≤ 1048576 from ⟨by omega, by omega⟩) ?_)))
      conv => whnf
      refine Br.mk (fun c => absurd (show ((0 : Int) != (0 : Int)) = true from c) (by simp)) (fun c => ?_)
      conv => whnf
      refine Cast.mk _ _ (Cast.mk _ _ (Need.mk rfl ?_))
      conv => whnf
      refine Br.mk (fun c => absurd (show (!true) = true from c) (by decide)) (fun c => ?_)
      conv => whnf
      refine Cast.mk _ _ (Cast.mk _ _ (Need.mk rfl ?_))
      conv => whnf
      refine Br.mk (fun c => absurd (show (!true) = true from c) (by decide)) (fun c => ?_)
      conv => whnf
      refine Cast.mk _ _ (Cast.mk _ _ (Need.mk rfl ?_))
      conv => whnf
      refine Br.mk (fun c => absurd (show (!true) = true from c) (by decide)) (fun c => ?_)
      conv => whnf
      refine Cast.mk _ _ (Need.mk (by omega) ?_)
      conv => whnf
      generalize setL (actU acts) = all
      refine Know.mk fun hlen2 => ?_
      have hlen2 : all.length ≤ 9223372036854775807 := hlen2
      conv => whnf
      refine LoopF.inv Nat (fun j => j ≤ all.length) (fun j => [(100, .sc (.int false .i64 (j : Int)))]) (fun j => all.length - j)
        (fun j => [.ro actK acts, .box 112 [.h 12, .h 13], .gone, .gone, .box 76 [.h 16, .h 17], .gone, .gone, .gone, .gone, .gone, .gone, .gone, .slc lockK G1, .slc lockK G2, .gone, .gone, .slc lockK G1, .slc lockK G2, .gone, .gone, .gone, .slc int55 all]) (fun _ => Nat.le_refl _) 0 []
        (Nat.zero_le _) ⟨⟨⟨rfl, rfl⟩, trivial⟩, ⟨rfl, ⟨rfl, rfl⟩, trivial, trivial, ⟨rfl, rfl⟩, trivial, trivial, trivial, trivial, trivial, trivial, trivial, rfl, rfl, trivial, trivial, rfl, rfl, trivial, trivial, trivial, rfl, trivial⟩, rfl⟩ ?_
      rintro j h2
      conv => whnf
      refine Br.mk (fun c4 => ?_) (fun c4 => ?_)
      · have hj := ltN c4
        obtain ⟨v, hv⟩ : ∃ v, nth all ((j : Int)).toNat int55.d = v := ⟨_, rfl⟩
        cases hany : G2.any (ofB v) with
        | true =>
          obtain ⟨hhd, hfl2⟩ := filt_head hany
          have hfl3 := List.length_filter_le (ofB v) G2
          have hwl : waitsL G2 v = nth (G2.filter (ofB v)) 0 lk0 := by
            rw [nth_eq, hhd, waitsL, if_pos hany]
          have e1 : (G2.any (ofB v) != decide (((G2.filter (ofB v)).length : Int) > 0)) = false := by
            rw [hany, decide_eq_true (by omega)]; rfl
          have hna : (!G2.any (ofB v)) = false := by rw [hany]; rfl
          have e3 : (!eqL (waitsL G2 v) (nth (G2.filter (ofB v)) 0 lk0)) = false := by
            rw [hwl, eqL_refl]; rfl
          change awp E15 (.seq (.block 4 _) _) _ _ _
          apply viaSeq
          · intro K1 hK1
            apply viaBlock
            · intro K2 hK2
              apply viaSeq
              · intro K hK
                conv => whnf
                refine Need.mk (show 0 ≤ (j : Int) ∧ (j : Int) < (all.length : Nat) from ⟨by omega, by omega⟩) ?_
                conv => whnf
                exact hK
              rw [hv]
              apply viaSeq
              · intro K hK
                conv => whnf
                refine Need.mk (by decide) (Cast.mk _ _ (Cast.mk _ _ ?_))
                conv => whnf
                exact hK
              apply viaSeq
              · intro K hK
                conv => whnf
                refine Cast.mk _ _ (Need.mk (by omega) ?_)
                conv => whnf
                exact hK
              apply viaSeq
              · intro K hK
                refine viaRegE 24 rfl [.gone, .gone, .gone, .gone, .gone] (by kernel_rfl) (by kernel_rfl) ?_
                apply viaOp
                · intro R hR
                  conv => whnf
                  exact hR
                apply viaOp
                · intro R hR
                  conv => whnf
                  exact hR
                apply viaOp
                · intro R hR
                  conv => whnf
                  exact hR
                apply viaOp
                · intro R hR
                  conv => whnf
                  exact hR
                apply viaOp
                · intro R hR
                  conv => whnf
                  exact hR
                apply viaOp
                · intro R hR
                  conv => whnf
                  exact hR
                apply viaOp
                · intro R hR
                  conv => whnf
                  refine GuardC.run e1 ?_
                  conv => whnf
                  exact hR
                apply viaOp
                · intro R hR
                  conv => whnf
                  refine GuardC.run e1 ?_
                  conv => whnf
                  exact hR
                apply viaOp
                · intro R hR
                  conv => whnf
                  refine GuardC.run hany ?_
                  conv => whnf
                  exact hR
                apply viaOp
                · intro R hR
                  conv => whnf
                  refine GuardC.run hany ?_
                  conv => whnf
                  exact hR
                apply viaOp
                · intro R hR
                  conv => whnf
                  refine GuardC.run hany ?_
                  conv => whnf
                  refine Need.mk (show 0 ≤ (0 : Int) ∧ (0 : Int) < ((G2.filter (ofB v)).length : Nat) from ⟨by omega, by omega⟩) ?_
                  conv => whnf
                  exact hR
                apply viaOp
                · intro R hR
                  conv => whnf
                  refine GuardC.run hany ?_
                  conv => whnf
                  exact hR
                apply viaOp
                · intro R hR
                  conv => whnf
                  refine GuardC.run hany ?_
                  conv => whnf
                  exact hR
                apply viaOp
                · intro R hR
                  conv => whnf
                  refine GuardC.run e1 ?_
                  conv => whnf
                  refine GuardC.run hany ?_
                  conv => whnf
                  exact hR
                apply viaOp
                · intro R hR
                  conv => whnf
                  refine GuardC.skip (neT e1) ?_
                  conv => whnf
                  exact hR
                apply viaOp
                · intro R hR
                  conv => whnf
                  exact hR
                apply viaOp
                · intro R hR
                  conv => whnf
                  refine GuardC.run e3 ?_
                  conv => whnf
                  exact hR
                apply viaOp
                · intro R hR
                  conv => whnf
                  refine GuardC.run e3 ?_
                  conv => whnf
                  exact hR
                apply viaOp
                · intro R hR
                  conv => whnf
                  refine GuardC.run e3 ?_
                  conv => whnf
                  exact hR
                apply viaOp
                · intro R hR
                  conv => whnf
                  refine GuardC.skip (neT hna) ?_
                  conv => whnf
                  exact hR
                apply viaOp
                · intro R hR
                  conv => whnf
                  refine GuardC.skip (neT hna) ?_
                  conv => whnf
                  exact hR
                apply viaOp
                · intro R hR
                  conv => whnf
                  refine GuardC.skip (neT hna) ?_
                  conv => whnf
                  exact hR
                apply viaOp
                · intro R hR
                  conv => whnf
                  refine GuardC.run e3 ?_
                  conv => whnf
                  refine GuardC.skip (neT hna) ?_
                  conv => whnf
                  exact hR
                apply viaOp
                · intro R hR
                  conv => whnf
                  refine GuardC.skip (neT e3) ?_
                  conv => whnf
                  exact hR
                apply viaOp
                · intro R hR
                  conv => whnf
                  exact hR
                apply viaOp
                · intro R hR
                  conv => whnf
                  exact hR
                apply viaOp
                · intro R hR
                  conv => whnf
                  exact hR
                apply viaOp
                · intro R hR
                  conv => whnf
                  refine Need.mk ⟨by decide, rfl, rfl, by rw [castL_eq]; omega, by rw [castL_eq]; omega, by rw [castL_eq, castL_eq]; exact wf_okU hwf⟩ ?_
                  conv => whnf
                  exact hR
                apply viaOp
                · intro R hR
                  conv => whnf
                  exact hR
                apply viaOp
                · intro R hR
                  conv => whnf
                  exact hR
                apply viaOp
                · intro R hR
                  conv => whnf
                  refine Need.mk ⟨rfl, rfl, by omega, by omega⟩ ?_
                  conv => whnf
                  exact hR
                apply viaOp
                · intro R hR
                  conv => whnf
                  refine Need.mk ⟨rfl, by rw [castTo_eq, castL_eq, castL_eq]; have := rwait_len G1 G2 v; omega⟩ ?_
                  conv => whnf
                  exact hR
                apply viaOp
                · intro R hR
                  conv => whnf
                  refine Need.mk ⟨rfl, rfl, by simp only [castTo_eq, castL_eq]; exact (blockers_eq G1 G2 v).symm⟩ ?_
                  conv => whnf
                  exact hR
                apply viaOp
                · intro R hR
                  conv => whnf
                  exact hR
                apply viaOp
                · intro R hR
                  conv => whnf
                  exact hR
                apply viaOp
                · intro R hR
                  conv => whnf
                  exact hR
                apply viaOp
                · intro R hR
                  conv => whnf
                  refine GuardC.run (by rfl) ?_
                  conv => whnf
                  exact hR
                apply viaOp
                · intro R hR
                  conv => whnf
                  refine GuardC.run (by rfl) ?_
                  conv => whnf
                  exact hR
                apply viaOp
                · intro R hR
                  conv => whnf
                  refine GuardC.run (by rfl) ?_
                  conv => whnf
                  refine Need.mk ⟨by decide, rfl, rfl, by rw [castL_eq]; omega⟩ ?_
                  conv => whnf
                  exact hR
                apply viaOp
                · intro R hR
                  conv => whnf
                  refine GuardC.run (by rfl) ?_
                  conv => whnf
                  exact hR
                apply viaOp
                · intro R hR
                  conv => whnf
                  refine GuardC.run (by rfl) ?_
                  conv => whnf
                  exact hR
                apply viaOp
                · intro R hR
                  conv => whnf
                  refine GuardC.run (by rfl) ?_
                  conv => whnf
                  exact hR
                apply viaOp
                · intro R hR
                  conv => whnf
                  refine GuardC.run (by rfl) ?_
                  conv => whnf
                  refine Need.mk ⟨rfl, by rw [castTo_eq]; omega⟩ ?_
                  conv => whnf
                  exact hR
                apply viaOp
                · intro R hR
                  conv => whnf
                  refine GuardC.run (by rfl) ?_
                  conv => whnf
                  refine Need.mk ⟨rfl, rfl, by simp only [castTo_eq, castL_eq]⟩ ?_
                  conv => whnf
                  exact hR
                apply viaOp
                · intro R hR
                  conv => whnf
                  refine GuardC.run (by rfl) ?_
                  conv => whnf
                  exact hR
                apply viaOp
                · intro R hR
                  conv => whnf
                  refine GuardC.skip (by decide) ?_
                  conv => whnf
                  exact hR
                refine Need.mk (by kernel_rfl) ?_
                conv => whnf
                exact hK
              refine condBr rfl (fun c => absurd (show (!true) = true from c) (by decide)) (fun c => ?_)
              conv => whnf
              exact hK2
            exact hK1
          conv => whnf
          exact ⟨j + 1, [], by omega, by omega, ⟨⟨⟨rfl, wrap_succ hj hlen2⟩, trivial⟩, ⟨rfl, ⟨rfl, rfl⟩, trivial, trivial, ⟨rfl, rfl⟩, trivial, trivial, trivial, trivial, trivial, trivial, trivial, rfl, rfl, trivial, trivial, rfl, rfl, trivial, trivial, trivial, rfl, trivial⟩, rfl⟩, rfl⟩
        | false =>
          have hq0 : G2.filter (ofB v) = [] := filt_none hany
          have e1 : (G2.any (ofB v) != decide (((G2.filter (ofB v)).length : Int) > 0)) = false := by
            rw [hany, hq0]; rfl
          have hfl3 := List.length_filter_le (ofB v) G2
          have hna : (!G2.any (ofB v)) = true := by rw [hany]; rfl
          have hwl : waitsL G2 v = lk0 := by
            rw [waitsL, hany, if_neg (by decide)]
          have e4 : (!eqL (waitsL G2 v) ⟨0, 0, ⟨#[]⟩, ⟨#[]⟩, false, false⟩) = false := by
            rw [hwl]; exact congrArg (fun b => !b) (eqL_refl lk0)
          change awp E15 (.seq (.block 4 _) _) _ _ _
          apply viaSeq
          · intro K1 hK1
            apply viaBlock
            · intro K2 hK2
              apply viaSeq
              · intro K hK
                conv => whnf
                refine Need.mk (show 0 ≤ (j : Int) ∧ (j : Int) < (all.length : Nat) from ⟨by omega, by omega⟩) ?_
                conv => whnf
                exact hK
              rw [hv]
              apply viaSeq
              · intro K hK
                conv => whnf
                refine Need.mk (by decide) (Cast.mk _ _ (Cast.mk _ _ ?_))
                conv => whnf
                exact hK
              apply viaSeq
              · intro K hK
                conv => whnf
                refine Cast.mk _ _ (Need.mk (by omega) ?_)
                conv => whnf
                exact hK
              apply viaSeq
              · intro K hK
                refine viaRegE 24 rfl [.gone, .gone, .gone, .gone, .gone] (by kernel_rfl) (by kernel_rfl) ?_
                apply viaOp
                · intro R hR
                  conv => whnf
                  exact hR
                apply viaOp
                · intro R hR
                  conv => whnf
                  exact hR
                apply viaOp
                · intro R hR
                  conv => whnf
                  exact hR
                apply viaOp
                · intro R hR
                  conv => whnf
                  exact hR
                apply viaOp
                · intro R hR
                  conv => whnf
                  exact hR
                apply viaOp
                · intro R hR
                  conv => whnf
                  exact hR
                apply viaOp
                · intro R hR
                  conv => whnf
                  refine GuardC.run e1 ?_
                  conv => whnf
                  exact hR
                apply viaOp
                · intro R hR
                  conv => whnf
                  refine GuardC.run e1 ?_
                  conv => whnf
                  exact hR
                apply viaOp
                · intro R hR
                  conv => whnf
                  refine GuardC.skip (neT hany) ?_
                  conv => whnf
                  exact hR
                apply viaOp
                · intro R hR
                  conv => whnf
                  refine GuardC.skip (neT hany) ?_
                  conv => whnf
                  exact hR
                apply viaOp
                · intro R hR
                  conv => whnf
                  refine GuardC.skip (neT hany) ?_
                  conv => whnf
                  exact hR
                apply viaOp
                · intro R hR
                  conv => whnf
                  refine GuardC.skip (neT hany) ?_
                  conv => whnf
                  exact hR
                apply viaOp
                · intro R hR
                  conv => whnf
                  refine GuardC.skip (neT hany) ?_
                  conv => whnf
                  exact hR
                apply viaOp
                · intro R hR
                  conv => whnf
                  refine GuardC.run e1 ?_
                  conv => whnf
                  refine GuardC.skip (neT hany) ?_
                  conv => whnf
                  exact hR
                apply viaOp
                · intro R hR
                  conv => whnf
                  refine GuardC.skip (neT e1) ?_
                  conv => whnf
                  exact hR
                apply viaOp
                · intro R hR
                  conv => whnf
                  exact hR
                apply viaOp
                · intro R hR
                  conv => whnf
                  exact hR
                apply viaOp
                · intro R hR
                  conv => whnf
                  exact hR
                apply viaOp
                · intro R hR
                  conv => whnf
                  exact hR
                apply viaOp
                · intro R hR
                  conv => whnf
                  refine GuardC.run hna ?_
                  conv => whnf
                  exact hR
                apply viaOp
                · intro R hR
                  conv => whnf
                  refine GuardC.run hna ?_
                  conv => whnf
                  exact hR
                apply viaOp
                · intro R hR
                  conv => whnf
                  refine GuardC.run hna ?_
                  conv => whnf
                  exact hR
                apply viaOp
                · intro R hR
                  conv => whnf
                  refine GuardC.run hna ?_
                  conv => whnf
                  exact hR
                apply viaOp
                · intro R hR
                  conv => whnf
                  exact hR
                apply viaOp
                · intro R hR
                  conv => whnf
                  exact hR
                apply viaOp
                · intro R hR
                  conv => whnf
                  refine GuardC.run e4 ?_
                  conv => whnf
                  exact hR
                apply viaOp
                · intro R hR
                  conv => whnf
                  refine GuardC.run e4 ?_
                  conv => whnf
                  exact hR
                apply viaOp
                · intro R hR
                  conv => whnf
                  refine GuardC.run e4 ?_
                  conv => whnf
                  refine Need.mk ⟨by decide, rfl, rfl, by rw [castL_eq]; omega, by rw [castL_eq]; omega, by rw [castL_eq, castL_eq]; exact wf_okU hwf⟩ ?_
                  conv => whnf
                  exact hR
                apply viaOp
                · intro R hR
                  conv => whnf
                  refine GuardC.run e4 ?_
                  conv => whnf
                  exact hR
                apply viaOp
                · intro R hR
                  conv => whnf
                  refine GuardC.run e4 ?_
                  conv => whnf
                  exact hR
                apply viaOp
                · intro R hR
                  conv => whnf
                  refine GuardC.run e4 ?_
                  conv => whnf
                  refine Need.mk ⟨rfl, rfl, by omega, by omega⟩ ?_
                  conv => whnf
                  exact hR
                apply viaOp
                · intro R hR
                  conv => whnf
                  refine GuardC.run e4 ?_
                  conv => whnf
                  refine Need.mk ⟨rfl, by rw [castTo_eq, castL_eq, castL_eq]; have := rwait_len G1 G2 v; omega⟩ ?_
                  conv => whnf
                  exact hR
                apply viaOp
                · intro R hR
                  conv => whnf
                  refine GuardC.run e4 ?_
                  conv => whnf
                  refine Need.mk ⟨rfl, rfl, by simp only [castTo_eq, castL_eq]; exact (blockers_eq G1 G2 v).symm⟩ ?_
                  conv => whnf
                  exact hR
                apply viaOp
                · intro R hR
                  conv => whnf
                  refine GuardC.run e4 ?_
                  conv => whnf
                  exact hR
                apply viaOp
                · intro R hR
                  conv => whnf
                  refine GuardC.skip (neT e4) ?_
                  conv => whnf
                  exact hR
                apply viaOp
                · intro R hR
                  conv => whnf
                  exact hR
                apply viaOp
                · intro R hR
                  conv => whnf
                  refine GuardC.run (by rfl) ?_
                  conv => whnf
                  exact hR
                apply viaOp
                · intro R hR
                  conv => whnf
                  refine GuardC.run (by rfl) ?_
                  conv => whnf
                  exact hR
                apply viaOp
                · intro R hR
                  conv => whnf
                  refine GuardC.run (by rfl) ?_
                  conv => whnf
                  refine Need.mk ⟨by decide, rfl, rfl, by rw [castL_eq]; omega⟩ ?_
                  conv => whnf
                  exact hR
                apply viaOp
                · intro R hR
                  conv => whnf
                  refine GuardC.run (by rfl) ?_
                  conv => whnf
                  exact hR
                apply viaOp
                · intro R hR
                  conv => whnf
                  refine GuardC.run (by rfl) ?_
                  conv => whnf
                  exact hR
                apply viaOp
                · intro R hR
                  conv => whnf
                  refine GuardC.run (by rfl) ?_
                  conv => whnf
                  exact hR
                apply viaOp
                · intro R hR
                  conv => whnf
                  refine GuardC.run (by rfl) ?_
                  conv => whnf
                  refine Need.mk ⟨rfl, by rw [castTo_eq]; omega⟩ ?_
                  conv => whnf
                  exact hR
                apply viaOp
                · intro R hR
                  conv => whnf
                  refine GuardC.run (by rfl) ?_
                  conv => whnf
                  refine Need.mk ⟨rfl, rfl, by simp only [castTo_eq, castL_eq]⟩ ?_
                  conv => whnf
                  exact hR
                apply viaOp
                · intro R hR
                  conv => whnf
                  refine GuardC.run (by rfl) ?_
                  conv => whnf
                  exact hR
                apply viaOp
                · intro R hR
                  conv => whnf
                  refine GuardC.skip (by decide) ?_
                  conv => whnf
                  exact hR
                refine Need.mk (by kernel_rfl) ?_
                conv => whnf
                exact hK
              refine condBr rfl (fun c => absurd (show (!true) = true from c) (by decide)) (fun c => ?_)
              conv => whnf
              exact hK2
            exact hK1
          conv => whnf
          exact ⟨j + 1, [], by omega, by omega, ⟨⟨⟨rfl, wrap_succ hj hlen2⟩, trivial⟩, ⟨rfl, ⟨rfl, rfl⟩, trivial, trivial, ⟨rfl, rfl⟩, trivial, trivial, trivial, trivial, trivial, trivial, trivial, rfl, rfl, trivial, trivial, rfl, rfl, trivial, trivial, trivial, rfl, trivial⟩, rfl⟩, rfl⟩
      · have hj := geN c4
        conv => whnf
        refine ⟨k + 1, [12, 13, 16, 17], by omega, by omega, ⟨⟨⟨rfl, wrap_succ hk hlen⟩, trivial⟩, ⟨rfl, ⟨rfl, rfl⟩, trivial, trivial, ⟨rfl, rfl⟩, trivial, trivial, ?_, ?_, ?_, ?_, trivial⟩, rfl⟩, rfl⟩
        · show AM.Item.slc lockK G1 = .slc lockK (playL (acts.take (k + 1))).1
          rw [hps]
        · show AM.Item.slc lockK G2 = .slc lockK (playL (acts.take (k + 1))).2
          rw [hps]
        · show AM.Item.slc lockK G1 = .slc lockK (playL (acts.take (k + 1))).1
          rw [hps]
        · show AM.Item.slc lockK G2 = .slc lockK (playL (acts.take (k + 1))).2
          rw [hps]
    · have c0 : (ak.tmod 3 == 1) = false := c3
      conv => whnf
      refine Br.mk (fun c3 => ?_) (fun c3 => ?_)
      · have c3 : (ak.tmod 3 == 2) = true := c3
        have hd : D = ⟨0, (relL H Q au).1, (relL H Q au).2.1, (relL H Q au).2.2⟩ := by
          rw [← hD]; unfold doL; simp only [c0, c3]
        conv => whnf
        refine Need.mk (show 9 ≠ 10 by decide) (Cast.mk _ _ (Cast.mk _ _ (Need.mk (by omega) ?_)))
        generalize hG : relL H Q au = G at hd ⊢
        obtain ⟨G1, G2, G3⟩ := G
        subst hd
        have hwf : WF G1 G2 := hwf
        have hdl : G1.length + G2.length ≤ H.length + Q.length + 1 := hdl
        have hps : playL (acts.take (k + 1)) = (G1, G2) := hps
        conv => whnf
        refine Need.mk (by decide) ?_
        refine (Cast.mk _ _ (Cast.mk _ _ (Need.mk (show G1.length ≤ 1048576 ∧ G2.length ≤ 1048576 from ⟨by omega, by omega⟩) ?_)))
        conv => whnf
        refine Br.mk (fun c => absurd (show ((0 : Int) != (0 : Int)) = true from c) (by simp)) (fun c => ?_)
        conv => whnf
        refine Cast.mk _ _ (Cast.mk _ _ (Need.mk rfl ?_))
        conv => whnf
        refine Br.mk (fun c => absurd (show (!true) = true from c) (by decide)) (fun c => ?_)
        conv => whnf
        refine Cast.mk _ _ (Cast.mk _ _ (Need.mk rfl ?_))
        conv => whnf
        refine Br.mk (fun c => absurd (show (!true) = true from c) (by decide)) (fun c => ?_)
        conv => whnf
        refine Cast.mk _ _ (Cast.mk _ _ (Need.mk rfl ?_))
        conv => whnf
        refine Br.mk (fun c => absurd (show (!true) = true from c) (by decide)) (fun c => ?_)
        conv => whnf
        refine Cast.mk _ _ (Need.mk (by omega) ?_)
        conv => whnf
        generalize setL (actU acts) = all
        refine Know.mk fun hlen2 => ?_
        have hlen2 : all.length ≤ 9223372036854775807 := hlen2
        conv => whnf
        refine LoopF.inv Nat (fun j => j ≤ all.length) (fun j => [(100, .sc (.int false .i64 (j : Int)))]) (fun j => all.length - j)
          (fun j => [.ro actK acts, .box 112 [.h 12, .h 13], .gone, .gone, .box 76 [.h 16, .h 17], .gone, .gone, .gone, .gone, .gone, .gone, .gone, .slc lockK G1, .slc lockK G2, .gone, .gone, .slc lockK G1, .slc lockK G2, .gone, .gone, .gone, .slc int55 all]) (fun _ => Nat.le_refl _) 0 []
          (Nat.zero_le _) ⟨⟨⟨rfl, rfl⟩, trivial⟩, ⟨rfl, ⟨rfl, rfl⟩, trivial, trivial, ⟨rfl, rfl⟩, trivial, trivial, trivial, trivial, trivial, trivial, trivial, rfl, rfl, trivial, trivial, rfl, rfl, trivial, trivial, trivial, rfl, trivial⟩, rfl⟩ ?_
        rintro j h2
        conv => whnf
        refine Br.mk (fun c4 => ?_) (fun c4 => ?_)
        · have hj := ltN c4
          obtain ⟨v, hv⟩ : ∃ v, nth all ((j : Int)).toNat int55.d = v := ⟨_, rfl⟩
          cases hany : G2.any (ofB v) with
          | true =>
            obtain ⟨hhd, hfl2⟩ := filt_head hany
            have hfl3 := List.length_filter_le (ofB v) G2
            have hwl : waitsL G2 v = nth (G2.filter (ofB v)) 0 lk0 := by
              rw [nth_eq, hhd, waitsL, if_pos hany]
            have e1 : (G2.any (ofB v) != decide (((G2.filter (ofB v)).length : Int) > 0)) = false := by
              rw [hany, decide_eq_true (by omega)]; rfl
            have hna : (!G2.any (ofB v)) = false := by rw [hany]; rfl
            have e3 : (!eqL (waitsL G2 v) (nth (G2.filter (ofB v)) 0 lk0)) = false := by
              rw [hwl, eqL_refl]; rfl
            change awp E15 (.seq (.block 4 _) _) _ _ _
            apply viaSeq
            · intro K1 hK1
              apply viaBlock
              · intro K2 hK2
                apply viaSeq
                · intro K hK
                  conv => whnf
                  refine Need.mk (show 0 ≤ (j : Int) ∧ (j : Int) < (all.length : Nat) from ⟨by omega, by omega⟩) ?_
                  conv => whnf
                  exact hK
                rw [hv]
                apply viaSeq
                · intro K hK
                  conv => whnf
                  refine Need.mk (by decide) (Cast.mk _ _ (Cast.mk _ _ ?_))
                  conv => whnf
                  exact hK
                apply viaSeq
                · intro K hK
                  conv => whnf
                  refine Cast.mk _ _ (Need.mk (by omega) ?_)
                  conv => whnf
                  exact hK
                apply viaSeq
                · intro K hK
                  refine viaRegE 24 rfl [.gone, .gone, .gone, .gone, .gone] (by kernel_rfl) (by kernel_rfl) ?_
                  apply viaOp
                  · intro R hR
                    conv => whnf
                    exact hR
                  apply viaOp
                  · intro R hR
                    conv => whnf
                    exact hR
                  apply viaOp
                  · intro R hR
                    conv => whnf
                    exact hR
                  apply viaOp
                  · intro R hR
                    conv => whnf
                    exact hR
                  apply viaOp
                  · intro R hR
                    conv => whnf
                    exact hR
                  apply viaOp
                  · intro R hR
                    conv => whnf
                    exact hR
                  apply viaOp
                  · intro R hR
                    conv => whnf
                    refine GuardC.run e1 ?_
                    conv => whnf
                    exact hR
                  apply viaOp
                  · intro R hR
                    conv => whnf
                    refine GuardC.run e1 ?_
                    conv => whnf
                    exact hR
                  apply viaOp
                  · intro R hR
                    conv => whnf
                    refine GuardC.run hany ?_
                    conv => whnf
                    exact hR
                  apply viaOp
                  · intro R hR
                    conv => whnf
                    refine GuardC.run hany ?_
                    conv => whnf
                    exact hR
                  apply viaOp
                  · intro R hR
                    conv => whnf
                    refine GuardC.run hany ?_
                    conv => whnf
                    refine Need.mk (show 0 ≤ (0 : Int) ∧ (0 : Int) < ((G2.filter (ofB v)).length : Nat) from ⟨by omega, by omega⟩) ?_
                    conv => whnf
                    exact hR
                  apply viaOp
                  · intro R hR
                    conv => whnf
                    refine GuardC.run hany ?_
                    conv => whnf
                    exact hR
                  apply viaOp
                  · intro R hR
                    conv => whnf
                    refine GuardC.run hany ?_
                    conv => whnf
                    exact hR
                  apply viaOp
                  · intro R hR
                    conv => whnf
                    refine GuardC.run e1 ?_
                    conv => whnf
                    refine GuardC.run hany ?_
                    conv => whnf
                    exact hR
                  apply viaOp
                  · intro R hR
                    conv => whnf
                    refine GuardC.skip (neT e1) ?_
                    conv => whnf
                    exact hR
                  apply viaOp
                  · intro R hR
                    conv => whnf
                    exact hR
                  apply viaOp
                  · intro R hR
                    conv => whnf
                    refine GuardC.run e3 ?_
                    conv => whnf
                    exact hR
                  apply viaOp
                  · intro R hR
                    conv => whnf
                    refine GuardC.run e3 ?_
                    conv => whnf
                    exact hR
                  apply viaOp
                  · intro R hR
                    conv => whnf
                    refine GuardC.run e3 ?_
                    conv => whnf
                    exact hR
                  apply viaOp
                  · intro R hR
                    conv => whnf
                    refine GuardC.skip (neT hna) ?_
                    conv => whnf
                    exact hR
                  apply viaOp
                  · intro R hR
                    conv => whnf
                    refine GuardC.skip (neT hna) ?_
                    conv => whnf
                    exact hR
                  apply viaOp
                  · intro R hR
                    conv => whnf
                    refine GuardC.skip (neT hna) ?_
                    conv => whnf
                    exact hR
                  apply viaOp
                  · intro R hR
                    conv => whnf
                    refine GuardC.run e3 ?_
                    conv => whnf
                    refine GuardC.skip (neT hna) ?_
                    conv => whnf
                    exact hR
                  apply viaOp
                  · intro R hR
                    conv => whnf
                    refine GuardC.skip (neT e3) ?_
                    conv => whnf
                    exact hR
                  apply viaOp
                  · intro R hR
                    conv => whnf
                    exact hR
                  apply viaOp
                  · intro R hR
                    conv => whnf
                    exact hR
                  apply viaOp
                  · intro R hR
                    conv => whnf
                    exact hR
                  apply viaOp
                  · intro R hR
                    conv => whnf
                    refine Need.mk ⟨by decide, rfl, rfl, by rw [castL_eq]; omega, by rw [castL_eq]; omega, by rw [castL_eq, castL_eq]; exact wf_okU hwf⟩ ?_
                    conv => whnf
                    exact hR
                  apply viaOp
                  · intro R hR
                    conv => whnf
                    exact hR
                  apply viaOp
                  · intro R hR
                    conv => whnf
                    exact hR
                  apply viaOp
                  · intro R hR
                    conv => whnf
                    refine Need.mk ⟨rfl, rfl, by omega, by omega⟩ ?_
                    conv => whnf
                    exact hR
                  apply viaOp
                  · intro R hR
                    conv => whnf
                    refine Need.mk ⟨rfl, by rw [castTo_eq, castL_eq, castL_eq]; have := rwait_len G1 G2 v; omega⟩ ?_
                    conv => whnf
                    exact hR
                  apply viaOp
                  · intro R hR
                    conv => whnf
                    refine Need.mk ⟨rfl, rfl, by simp only [castTo_eq, castL_eq]; exact (blockers_eq G1 G2 v).symm⟩ ?_
                    conv => whnf
                    exact hR
                  apply viaOp
                  · intro R hR
                    conv => whnf
                    exact hR
                  apply viaOp
                  · intro R hR
                    conv => whnf
                    exact hR
                  apply viaOp
                  · intro R hR
                    conv => whnf
                    exact hR
                  apply viaOp
                  · intro R hR
                    conv => whnf
                    refine GuardC.run (by rfl) ?_
                    conv => whnf
                    exact hR
                  apply viaOp
                  · intro R hR
                    conv => whnf
                    refine GuardC.run (by rfl) ?_
                    conv => whnf
                    exact hR
                  apply viaOp
                  · intro R hR
                    conv => whnf
                    refine GuardC.run (by rfl) ?_
                    conv => whnf
                    refine Need.mk ⟨by decide, rfl, rfl, by rw [castL_eq]; omega⟩ ?_
                    conv => whnf
                    exact hR
                  apply viaOp
                  · intro R hR
                    conv => whnf
                    refine GuardC.run (by rfl) ?_
                    conv => whnf
                    exact hR
                  apply viaOp
                  · intro R hR
                    conv => whnf
                    refine GuardC.run (by rfl) ?_
                    conv => whnf
                    exact hR
                  apply viaOp
                  · intro R hR
                    conv => whnf
                    refine GuardC.run (by rfl) ?_
                    conv => whnf
                    exact hR
                  apply viaOp
                  · intro R hR
                    conv => whnf
                    refine GuardC.run (by rfl) ?_
                    conv => whnf
                    refine Need.mk ⟨rfl, by rw [castTo_eq]; omega⟩ ?_
                    conv => whnf
                    exact hR
                  apply viaOp
                  · intro R hR
                    conv => whnf
                    refine GuardC.run (by rfl) ?_
                    conv => whnf
                    refine Need.mk ⟨rfl, rfl, by simp only [castTo_eq, castL_eq]⟩ ?_
                    conv => whnf
                    exact hR
                  apply viaOp
                  · intro R hR
                    conv => whnf
                    refine GuardC.run (by rfl) ?_
                    conv => whnf
                    exact hR
                  apply viaOp
                  · intro R hR
                    conv => whnf
                    refine GuardC.skip (by decide) ?_
                    conv => whnf
                    exact hR
                  refine Need.mk (by kernel_rfl) ?_
                  conv => whnf
                  exact hK
                refine condBr rfl (fun c => absurd (show (!true) = true from c) (by decide)) (fun c => ?_)
                conv => whnf
                exact hK2
              exact hK1
            conv => whnf
            exact ⟨j + 1, [], by omega, by omega, ⟨⟨⟨rfl, wrap_succ hj hlen2⟩, trivial⟩, ⟨rfl, ⟨rfl, rfl⟩, trivial, trivial, ⟨rfl, rfl⟩, trivial, trivial, trivial, trivial, trivial, trivial, trivial, rfl, rfl, trivial, trivial, rfl, rfl, trivial, trivial, trivial, rfl, trivial⟩, rfl⟩, rfl⟩
          | false =>
            have hq0 : G2.filter (ofB v) = [] := filt_none hany
            have e1 : (G2.any (ofB v) != decide (((G2.filter (ofB v)).length : Int) > 0)) = false := by
              rw [hany, hq0]; rfl
            have hfl3 := List.length_filter_le (ofB v) G2
            have hna : (!G2.any (ofB v)) = true := by rw [hany]; rfl
            have hwl : waitsL G2 v = lk0 := by
              rw [waitsL, hany, if_neg (by decide)]
            have e4 : (!eqL (waitsL G2 v) ⟨0, 0, ⟨#[]⟩, ⟨#[]⟩, false, false⟩) = false := by
              rw [hwl]; exact congrArg (fun b => !b) (eqL_refl lk0)
            change awp E15 (.seq (.block 4 _) _) _ _ _
            apply viaSeq
            · intro K1 hK1
              apply viaBlock
              · intro K2 hK2
                apply viaSeq
                · intro K hK
                  conv => whnf
                  refine Need.mk (show 0 ≤ (j : Int) ∧ (j : Int) < (all.length : Nat) from ⟨by omega, by omega⟩) ?_
                  conv => whnf
                  exact hK
                rw [hv]
                apply viaSeq
                · intro K hK
                  conv => whnf
                  refine Need.mk (by decide) (Cast.mk _ _ (Cast.mk _ _ ?_))
                  conv => whnf
                  exact hK
                apply viaSeq
                · intro K hK
                  conv => whnf
                  refine Cast.mk _ _ (Need.mk (by omega) ?_)
                  conv => whnf
                  exact hK
                apply viaSeq
                · intro K hK
                  refine viaRegE 24 rfl [.gone, .gone, .gone, .gone, .gone] (by kernel_rfl) (by kernel_rfl) ?_
                  apply viaOp
                  · intro R hR
                    conv => whnf
                    exact hR
                  apply viaOp
                  · intro R hR
                    conv => whnf
                    exact hR
                  apply viaOp
                  · intro R hR
                    conv => whnf
                    exact hR
                  apply viaOp
                  · intro R hR
                    conv => whnf
                    exact hR
                  apply viaOp
                  · intro R hR
                    conv => whnf
                    exact hR
                  apply viaOp
                  · intro R hR
                    conv => whnf
                    exact hR
                  apply viaOp
                  · intro R hR
                    conv => whnf
                    refine GuardC.run e1 ?_
                    conv => whnf
                    exact hR
                  apply viaOp
                  · intro R hR
                    conv => whnf
                    refine GuardC.run e1 ?_
                    conv => whnf
                    exact hR
                  apply viaOp
                  · intro R hR
                    conv => whnf
                    refine GuardC.skip (neT hany) ?_
                    conv => whnf
                    exact hR
                  apply viaOp
                  · intro R hR
                    conv => whnf
                    refine GuardC.skip (neT hany) ?_
                    conv => whnf
                    exact hR
                  apply viaOp
                  · intro R hR
                    conv => whnf
                    refine GuardC.skip (neT hany) ?_
                    conv => whnf
                    exact hR
                  apply viaOp
                  · intro R hR
                    conv => whnf
                    refine GuardC.skip (neT hany) ?_
                    conv => whnf
                    exact hR
                  apply viaOp
                  · intro R hR
                    conv => whnf
                    refine GuardC.skip (neT hany) ?_
                    conv => whnf
                    exact hR
                  apply viaOp
                  · intro R hR
                    conv => whnf
                    refine GuardC.run e1 ?_
                    conv => whnf
                    refine GuardC.skip (neT hany) ?_
                    conv => whnf
                    exact hR
                  apply viaOp
                  · intro R hR
                    conv => whnf
                    refine GuardC.skip (neT e1) ?_
                    conv => whnf
                    exact hR
                  apply viaOp
                  · intro R hR
                    conv => whnf
                    exact hR
                  apply viaOp
                  · intro R hR
                    conv => whnf
                    exact hR
                  apply viaOp
                  · intro R hR
                    conv => whnf
                    exact hR
                  apply viaOp
                  · intro R hR
                    conv => whnf
                    exact hR
                  apply viaOp
                  · intro R hR
                    conv => whnf
                    refine GuardC.run hna ?_
                    conv => whnf
                    exact hR
                  apply viaOp
                  · intro R hR
                    conv => whnf
                    refine GuardC.run hna ?_
                    conv => whnf
                    exact hR
                  apply viaOp
                  · intro R hR
                    conv => whnf
                    refine GuardC.run hna ?_
                    conv => whnf
                    exact hR
                  apply viaOp
                  · intro R hR
                    conv => whnf
                    refine GuardC.run hna ?_
                    conv => whnf
                    exact hR
                  apply viaOp
                  · intro R hR
                    conv => whnf
                    exact hR
                  apply viaOp
                  · intro R hR
                    conv => whnf
                    exact hR
                  apply viaOp
                  · intro R hR
                    conv => whnf
                    refine GuardC.run e4 ?_
                    conv => whnf
                    exact hR
                  apply viaOp
                  · intro R hR
                    conv => whnf
                    refine GuardC.run e4 ?_
                    conv => whnf
                    exact hR
                  apply viaOp
                  · intro R hR
                    conv => whnf
                    refine GuardC.run e4 ?_
                    conv => whnf
                    refine Need.mk ⟨by decide, rfl, rfl, by rw [castL_eq]; omega, by rw [castL_eq]; omega, by rw [castL_eq, castL_eq]; exact wf_okU hwf⟩ ?_
                    conv => whnf
                    exact hR
                  apply viaOp
                  · intro R hR
                    conv => whnf
                    refine GuardC.run e4 ?_
                    conv => whnf
                    exact hR
                  apply viaOp
                  · intro R hR
                    conv => whnf
                    refine GuardC.run e4 ?_
                    conv => whnf
                    exact hR
                  apply viaOp
                  · intro R hR
                    conv => whnf
                    refine GuardC.run e4 ?_
                    conv => whnf
                    refine Need.mk ⟨rfl, rfl, by omega, by omega⟩ ?_
                    conv => whnf
                    exact hR
                  apply viaOp
                  · intro R hR
                    conv => whnf
                    refine GuardC.run e4 ?_
                    conv => whnf
                    refine Need.mk ⟨rfl, by rw [castTo_eq, castL_eq, castL_eq]; have := rwait_len G1 G2 v; omega⟩ ?_
                    conv => whnf
                    exact hR
                  apply viaOp
                  · intro R hR
                    conv => whnf
                    refine GuardC.run e4 ?_
                    conv => whnf
                    refine Need.mk ⟨rfl, rfl, by simp only [castTo_eq, castL_eq]; exact (blockers_eq G1 G2 v).symm⟩ ?_
                    conv => whnf
                    exact hR
                  apply viaOp
                  · intro R hR
                    conv => whnf
                    refine GuardC.run e4 ?_
                    conv => whnf
                    exact hR
                  apply viaOp
                  · intro R hR
                    conv => whnf
                    refine GuardC.skip (neT e4) ?_
                    conv => whnf
                    exact hR
                  apply viaOp
                  · intro R hR
                    conv => whnf
                    exact hR
                  apply viaOp
                  · intro R hR
                    conv => whnf
                    refine GuardC.run (by rfl) ?_
                    conv => whnf
                    exact hR
                  apply viaOp
                  · intro R hR
                    conv => whnf
                    refine GuardC.run (by rfl) ?_
                    conv => whnf
                    exact hR
                  apply viaOp
                  · intro R hR
                    conv => whnf
                    refine GuardC.run (by rfl) ?_
                    conv => whnf
                    refine Need.mk ⟨by decide, rfl, rfl, by rw [castL_eq]; omega⟩ ?_
                    conv => whnf
                    exact hR
                  apply viaOp
                  · intro R hR
                    conv => whnf
                    refine GuardC.run (by rfl) ?_
                    conv => whnf
                    exact hR
                  apply viaOp
                  · intro R hR
                    conv => whnf
                    refine GuardC.run (by rfl) ?_
                    conv => whnf
                    exact hR
                  apply viaOp
                  · intro R hR
                    conv => whnf
                    refine GuardC.run (by rfl) ?_
                    conv => whnf
                    exact hR
                  apply viaOp
                  · intro R hR
                    conv => whnf
                    refine GuardC.run (by rfl) ?_
                    conv => whnf
                    refine Need.mk ⟨rfl, by rw [castTo_eq]; omega⟩ ?_
                    conv => whnf
                    exact hR
                  apply viaOp
                  · intro R hR
                    conv => whnf
                    refine GuardC.run (by rfl) ?_
                    conv => whnf
                    refine Need.mk ⟨rfl, rfl, by simp only [castTo_eq, castL_eq]⟩ ?_
                    conv => whnf
                    exact hR
                  apply viaOp
                  · intro R hR
                    conv => whnf
                    refine GuardC.run (by rfl) ?_
                    conv => whnf
                    exact hR
                  apply viaOp
                  · intro R hR
                    conv => whnf
                    refine GuardC.skip (by decide) ?_
                    conv => whnf
                    exact hR
                  refine Need.mk (by kernel_rfl) ?_
                  conv => whnf
                  exact hK
                refine condBr rfl (fun c => absurd (show (!true) = true from c) (by decide)) (fun c => ?_)
                conv => whnf
                exact hK2
              exact hK1
            conv => whnf
            exact ⟨j + 1, [], by omega, by omega, ⟨⟨⟨rfl, wrap_succ hj hlen2⟩, trivial⟩, ⟨rfl, ⟨rfl, rfl⟩, trivial, trivial, ⟨rfl, rfl⟩, trivial, trivial, trivial, trivial, trivial, trivial, trivial, rfl, rfl, trivial, trivial, rfl, rfl, trivial, trivial, trivial, rfl, trivial⟩, rfl⟩, rfl⟩
        · have hj := geN c4
          conv => whnf
          refine ⟨k + 1, [12, 13, 16, 17], by omega, by omega, ⟨⟨⟨rfl, wrap_succ hk hlen⟩, trivial⟩, ⟨rfl, ⟨rfl, rfl⟩, trivial, trivial, ⟨rfl, rfl⟩, trivial, trivial, ?_, ?_, ?_, ?_, trivial⟩, rfl⟩, rfl⟩
          · show AM.Item.slc lockK G1 = .slc lockK (playL (acts.take (k + 1))).1
            rw [hps]
          · show AM.Item.slc lockK G2 = .slc lockK (playL (acts.take (k + 1))).2
            rw [hps]
          · show AM.Item.slc lockK G1 = .slc lockK (playL (acts.take (k + 1))).1
            rw [hps]
          · show AM.Item.slc lockK G2 = .slc lockK (playL (acts.take (k + 1))).2
            rw [hps]
      · have c3 : (ak.tmod 3 == 2) = false := c3
        have hd : D = ⟨(reqL H Q ⟨au, ai, alo, ahi, ae, ax⟩).1, (reqL H Q ⟨au, ai, alo, ahi, ae, ax⟩).2.1, (reqL H Q ⟨au, ai, alo, ahi, ae, ax⟩).2.2, []⟩ := by
          rw [← hD]; unfold doL; simp only [c0, c3]
        conv => whnf
        refine Need.mk (show 9 ≠ 10 by decide) (Cast.mk _ _ (Cast.mk _ _ (Need.mk (by omega) ?_)))
        generalize hG : reqL H Q ⟨au, ai, alo, ahi, ae, ax⟩ = G at hd ⊢
        obtain ⟨G0, G1, G2⟩ := G
        subst hd
        have hwf : WF G1 G2 := hwf
        have hdl : G1.length + G2.length ≤ H.length + Q.length + 1 := hdl
        have hps : playL (acts.take (k + 1)) = (G1, G2) := hps
        conv => whnf
        refine Need.mk (by decide) ?_
        refine (Cast.mk _ _ (Cast.mk _ _ (Need.mk (show G1.length ≤ 1048576 ∧ G2.length ≤ 1048576 from ⟨by omega, by omega⟩) ?_)))
        conv => whnf
        refine Br.mk (fun c => absurd (show (G0 != G0) = true from c) (by simp)) (fun c => ?_)
        conv => whnf
        refine Cast.mk _ _ (Cast.mk _ _ (Need.mk rfl ?_))
        conv => whnf
        refine Br.mk (fun c => absurd (show (!true) = true from c) (by decide)) (fun c => ?_)
        conv => whnf
        refine Cast.mk _ _ (Cast.mk _ _ (Need.mk rfl ?_))
        conv => whnf
        refine Br.mk (fun c => absurd (show (!true) = true from c) (by decide)) (fun c => ?_)
        conv => whnf
        refine Cast.mk _ _ (Cast.mk _ _ (Need.mk rfl ?_))
        conv => whnf
        refine Br.mk (fun c => absurd (show (!true) = true from c) (by decide)) (fun c => ?_)
        conv => whnf
        refine Cast.mk _ _ (Need.mk (by omega) ?_)
        conv => whnf
        generalize setL (actU acts) = all
        refine Know.mk fun hlen2 => ?_
        have hlen2 : all.length ≤ 9223372036854775807 := hlen2
        conv => whnf
        refine LoopF.inv Nat (fun j => j ≤ all.length) (fun j => [(100, .sc (.int false .i64 (j : Int)))]) (fun j => all.length - j)
          (fun j => [.ro actK acts, .box 112 [.h 12, .h 13], .gone, .gone, .box 76 [.h 16, .h 17], .gone, .gone, .gone, .gone, .gone, .gone, .gone, .slc lockK G1, .slc lockK G2, .gone, .gone, .slc lockK G1, .slc lockK G2, .gone, .gone, .slc int55 all]) (fun _ => Nat.le_refl _) 0 []
          (Nat.zero_le _) ⟨⟨⟨rfl, rfl⟩, trivial⟩, ⟨rfl, ⟨rfl, rfl⟩, trivial, trivial, ⟨rfl, rfl⟩, trivial, trivial, trivial, trivial, trivial, trivial, trivial, rfl, rfl, trivial, trivial, rfl, rfl, trivial, trivial, rfl, trivial⟩, rfl⟩ ?_
        rintro j h2
        conv => whnf
        refine Br.mk (fun c4 => ?_) (fun c4 => ?_)
        · have hj := ltN c4
          obtain ⟨v, hv⟩ : ∃ v, nth all ((j : Int)).toNat int55.d = v := ⟨_, rfl⟩
          cases hany : G2.any (ofB v) with
          | true =>
            obtain ⟨hhd, hfl2⟩ := filt_head hany
            have hfl3 := List.length_filter_le (ofB v) G2
            have hwl : waitsL G2 v = nth (G2.filter (ofB v)) 0 lk0 := by
              rw [nth_eq, hhd, waitsL, if_pos hany]
            have e1 : (G2.any (ofB v) != decide (((G2.filter (ofB v)).length : Int) > 0)) = false := by
              rw [hany, decide_eq_true (by omega)]; rfl
            have hna : (!G2.any (ofB v)) = false := by rw [hany]; rfl
            have e3 : (!eqL (waitsL G2 v) (nth (G2.filter (ofB v)) 0 lk0)) = false := by
              rw [hwl, eqL_refl]; rfl
            change awp E15 (.seq (.block 4 _) _) _ _ _
            apply viaSeq
            · intro K1 hK1
              apply viaBlock
              · intro K2 hK2
                apply viaSeq
                · intro K hK
                  conv => whnf
                  refine Need.mk (show 0 ≤ (j : Int) ∧ (j : Int) < (all.length : Nat) from ⟨by omega, by omega⟩) ?_
                  conv => whnf
                  exact hK
                rw [hv]
                apply viaSeq
                · intro K hK
                  conv => whnf
                  refine Need.mk (by decide) (Cast.mk _ _ (Cast.mk _ _ ?_))
                  conv => whnf
                  exact hK
                apply viaSeq
                · intro K hK
                  conv => whnf
                  refine Cast.mk _ _ (Need.mk (by omega) ?_)
                  conv => whnf
                  exact hK
                apply viaSeq
                · intro K hK
                  refine viaRegE 23 rfl [.gone, .gone, .gone, .gone, .gone] (by kernel_rfl) (by kernel_rfl) ?_
                  apply viaOp
                  · intro R hR
                    conv => whnf
                    exact hR
                  apply viaOp
                  · intro R hR
                    conv => whnf
                    exact hR
                  apply viaOp
                  · intro R hR
                    conv => whnf
                    exact hR
                  apply viaOp
                  · intro R hR
                    conv => whnf
                    exact hR
                  apply viaOp
                  · intro R hR
                    conv => whnf
                    exact hR
                  apply viaOp
                  · intro R hR
                    conv => whnf
                    exact hR
                  apply viaOp
                  · intro R hR
                    conv => whnf
                    refine GuardC.run e1 ?_
                    conv => whnf
                    exact hR
                  apply viaOp
                  · intro R hR
                    conv => whnf
                    refine GuardC.run e1 ?_
                    conv => whnf
                    exact hR
                  apply viaOp
                  · intro R hR
                    conv => whnf
                    refine GuardC.run hany ?_
                    conv => whnf
                    exact hR
                  apply viaOp
                  · intro R hR
                    conv => whnf
                    refine GuardC.run hany ?_
                    conv => whnf
                    exact hR
                  apply viaOp
                  · intro R hR
                    conv => whnf
                    refine GuardC.run hany ?_
                    conv => whnf
                    refine Need.mk (show 0 ≤ (0 : Int) ∧ (0 : Int) < ((G2.filter (ofB v)).length : Nat) from ⟨by omega, by omega⟩) ?_
                    conv => whnf
                    exact hR
                  apply viaOp
                  · intro R hR
                    conv => whnf
                    refine GuardC.run hany ?_
                    conv => whnf
                    exact hR
                  apply viaOp
                  · intro R hR
                    conv => whnf
                    refine GuardC.run hany ?_
                    conv => whnf
                    exact hR
                  apply viaOp
                  · intro R hR
                    conv => whnf
                    refine GuardC.run e1 ?_
                    conv => whnf
                    refine GuardC.run hany ?_
                    conv => whnf
                    exact hR
                  apply viaOp
                  · intro R hR
                    conv => whnf
                    refine GuardC.skip (neT e1) ?_
                    conv => whnf
                    exact hR
                  apply viaOp
                  · intro R hR
                    conv => whnf
                    exact hR
                  apply viaOp
                  · intro R hR
                    conv => whnf
                    refine GuardC.run e3 ?_
                    conv => whnf
                    exact hR
                  apply viaOp
                  · intro R hR
                    conv => whnf
                    refine GuardC.run e3 ?_
                    conv => whnf
                    exact hR
                  apply viaOp
                  · intro R hR
                    conv => whnf
                    refine GuardC.run e3 ?_
                    conv => whnf
                    exact hR
                  apply viaOp
                  · intro R hR
                    conv => whnf
                    refine GuardC.skip (neT hna) ?_
                    conv => whnf
                    exact hR
                  apply viaOp
                  · intro R hR
                    conv => whnf
                    refine GuardC.skip (neT hna) ?_
                    conv => whnf
                    exact hR
                  apply viaOp
                  · intro R hR
                    conv => whnf
                    refine GuardC.skip (neT hna) ?_
                    conv => whnf
                    exact hR
                  apply viaOp
                  · intro R hR
                    conv => whnf
                    refine GuardC.run e3 ?_
                    conv => whnf
                    refine GuardC.skip (neT hna) ?_
                    conv => whnf
                    exact hR
                  apply viaOp
                  · intro R hR
                    conv => whnf
                    refine GuardC.skip (neT e3) ?_
                    conv => whnf
                    exact hR
                  apply viaOp
                  · intro R hR
                    conv => whnf
                    exact hR
                  apply viaOp
                  · intro R hR
                    conv => whnf
                    exact hR
                  apply viaOp
                  · intro R hR
                    conv => whnf
                    exact hR
                  apply viaOp
                  · intro R hR
                    conv => whnf
                    refine Need.mk ⟨by decide, rfl, rfl, by rw [castL_eq]; omega, by rw [castL_eq]; omega, by rw [castL_eq, castL_eq]; exact wf_okU hwf⟩ ?_
                    conv => whnf
                    exact hR
                  apply viaOp
                  · intro R hR
                    conv => whnf
                    exact hR
                  apply viaOp
                  · intro R hR
                    conv => whnf
                    exact hR
                  apply viaOp
                  · intro R hR
                    conv => whnf
                    refine Need.mk ⟨rfl, rfl, by omega, by omega⟩ ?_
                    conv => whnf
                    exact hR
                  apply viaOp
                  · intro R hR
                    conv => whnf
                    refine Need.mk ⟨rfl, by rw [castTo_eq, castL_eq, castL_eq]; have := rwait_len G1 G2 v; omega⟩ ?_
                    conv => whnf
                    exact hR
                  apply viaOp
                  · intro R hR
                    conv => whnf
                    refine Need.mk ⟨rfl, rfl, by simp only [castTo_eq, castL_eq]; exact (blockers_eq G1 G2 v).symm⟩ ?_
                    conv => whnf
                    exact hR
                  apply viaOp
                  · intro R hR
                    conv => whnf
                    exact hR
                  apply viaOp
                  · intro R hR
                    conv => whnf
                    exact hR
                  apply viaOp
                  · intro R hR
                    conv => whnf
                    exact hR
                  apply viaOp
                  · intro R hR
                    conv => whnf
                    refine GuardC.run (by rfl) ?_
                    conv => whnf
                    exact hR
                  apply viaOp
                  · intro R hR
                    conv => whnf
                    refine GuardC.run (by rfl) ?_
                    conv => whnf
                    exact hR
                  apply viaOp
                  · intro R hR
                    conv => whnf
                    refine GuardC.run (by rfl) ?_
                    conv => whnf
                    refine Need.mk ⟨by decide, rfl, rfl, by rw [castL_eq]; omega⟩ ?_
                    conv => whnf
                    exact hR
                  apply viaOp
                  · intro R hR
                    conv => whnf
                    refine GuardC.run (by rfl) ?_
                    conv => whnf
                    exact hR
                  apply viaOp
                  · intro R hR
                    conv => whnf
                    refine GuardC.run (by rfl) ?_
                    conv => whnf
                    exact hR
                  apply viaOp
                  · intro R hR
                    conv => whnf
                    refine GuardC.run (by rfl) ?_
                    conv => whnf
                    exact hR
                  apply viaOp
                  · intro R hR
                    conv => whnf
                    refine GuardC.run (by rfl) ?_
                    conv => whnf
                    refine Need.mk ⟨rfl, by rw [castTo_eq]; omega⟩ ?_
                    conv => whnf
                    exact hR
                  apply viaOp
                  · intro R hR
                    conv => whnf
                    refine GuardC.run (by rfl) ?_
                    conv => whnf
                    refine Need.mk ⟨rfl, rfl, by simp only [castTo_eq, castL_eq]⟩ ?_
                    conv => whnf
                    exact hR
                  apply viaOp
                  · intro R hR
                    conv => whnf
                    refine GuardC.run (by rfl) ?_
                    conv => whnf
                    exact hR
                  apply viaOp
                  · intro R hR
                    conv => whnf
                    refine GuardC.skip (by decide) ?_
                    conv => whnf
                    exact hR
                  refine Need.mk (by kernel_rfl) ?_
                  conv => whnf
                  exact hK
                refine condBr rfl (fun c => absurd (show (!true) = true from c) (by decide)) (fun c => ?_)
                conv => whnf
                exact hK2
              exact hK1
            conv => whnf
            exact ⟨j + 1, [], by omega, by omega, ⟨⟨⟨rfl, wrap_succ hj hlen2⟩, trivial⟩, ⟨rfl, ⟨rfl, rfl⟩, trivial, trivial, ⟨rfl, rfl⟩, trivial, trivial, trivial, trivial, trivial, trivial, trivial, rfl, rfl, trivial, trivial, rfl, rfl, trivial, trivial, rfl, trivial⟩, rfl⟩, rfl⟩
          | false =>
            have hq0 : G2.filter (ofB v) = [] := filt_none hany
            have e1 : (G2.any (ofB v) != decide (((G2.filter (ofB v)).length : Int) > 0)) = false := by
              rw [hany, hq0]; rfl
            have hfl3 := List.length_filter_le (ofB v) G2
            have hna : (!G2.any (ofB v)) = true := by rw [hany]; rfl
            have hwl : waitsL G2 v = lk0 := by
              rw [waitsL, hany, if_neg (by decide)]
            have e4 : (!eqL (waitsL G2 v) ⟨0, 0, ⟨#[]⟩, ⟨#[]⟩, false, false⟩) = false := by
              rw [hwl]; exact congrArg (fun b => !b) (eqL_refl lk0)
            change awp E15 (.seq (.block 4 _) _) _ _ _
            apply viaSeq
            · intro K1 hK1
              apply viaBlock
              · intro K2 hK2
                apply viaSeq
                · intro K hK
                  conv => whnf
                  refine Need.mk (show 0 ≤ (j : Int) ∧ (j : Int) < (all.length : Nat) from ⟨by omega, by omega⟩) ?_
                  conv => whnf
                  exact hK
                rw [hv]
                apply viaSeq
                · intro K hK
                  conv => whnf
                  refine Need.mk (by decide) (Cast.mk _ _ (Cast.mk _ _ ?_))
                  conv => whnf
                  exact hK
                apply viaSeq
                · intro K hK
                  conv => whnf
                  refine Cast.mk _ _ (Need.mk (by omega) ?_)
                  conv => whnf
                  exact hK
                apply viaSeq
                · intro K hK
                  refine viaRegE 23 rfl [.gone, .gone, .gone, .gone, .gone] (by kernel_rfl) (by kernel_rfl) ?_
                  apply viaOp
                  · intro R hR
                    conv => whnf
                    exact hR
                  apply viaOp
                  · intro R hR
                    conv => whnf
                    exact hR
                  apply viaOp
                  · intro R hR
                    conv => whnf
                    exact hR
                  apply viaOp
                  · intro R hR
                    conv => whnf
                    exact hR
                  apply viaOp
                  · intro R hR
                    conv => whnf
                    exact hR
                  apply viaOp
                  · intro R hR
                    conv => whnf
                    exact hR
                  apply viaOp
                  · intro R hR
                    conv => whnf
                    refine GuardC.run e1 ?_
                    conv => whnf
                    exact hR
                  apply viaOp
                  · intro R hR
                    conv => whnf
                    refine GuardC.run e1 ?_
                    conv => whnf
                    exact hR
                  apply viaOp
                  · intro R hR
                    conv => whnf
                    refine GuardC.skip (neT hany) ?_
                    conv => whnf
                    exact hR
                  apply viaOp
                  · intro R hR
                    conv => whnf
                    refine GuardC.skip (neT hany) ?_
                    conv => whnf
                    exact hR
                  apply viaOp
                  · intro R hR
                    conv => whnf
                    refine GuardC.skip (neT hany) ?_
                    conv => whnf
                    exact hR
                  apply viaOp
                  · intro R hR
                    conv => whnf
                    refine GuardC.skip (neT hany) ?_
                    conv => whnf
                    exact hR
                  apply viaOp
                  · intro R hR
                    conv => whnf
                    refine GuardC.skip (neT hany) ?_
                    conv => whnf
                    exact hR
                  apply viaOp
                  · intro R hR
                    conv => whnf
                    refine GuardC.run e1 ?_
                    conv => whnf
                    refine GuardC.skip (neT hany) ?_
                    conv => whnf
                    exact hR
                  apply viaOp
                  · intro R hR
                    conv => whnf
                    refine GuardC.skip (neT e1) ?_
                    conv => whnf
                    exact hR
                  apply viaOp
                  · intro R hR
                    conv => whnf
                    exact hR
                  apply viaOp
                  · intro R hR
                    conv => whnf
                    exact hR
                  apply viaOp
                  · intro R hR
                    conv => whnf
                    exact hR
                  apply viaOp
                  · intro R hR
                    conv => whnf
                    exact hR
                  apply viaOp
                  · intro R hR
                    conv => whnf
                    refine GuardC.run hna ?_
                    conv => whnf
                    exact hR
                  apply viaOp
                  · intro R hR
                    conv => whnf
                    refine GuardC.run hna ?_
                    conv => whnf
                    exact hR
                  apply viaOp
                  · intro R hR
                    conv => whnf
                    refine GuardC.run hna ?_
                    conv => whnf
                    exact hR
                  apply viaOp
                  · intro R hR
                    conv => whnf
                    refine GuardC.run hna ?_
                    conv => whnf
                    exact hR
                  apply viaOp
                  · intro R hR
                    conv => whnf
                    exact hR
                  apply viaOp
                  · intro R hR
                    conv => whnf
                    exact hR
                  apply viaOp
                  · intro R hR
                    conv => whnf
                    refine GuardC.run e4 ?_
                    conv => whnf
                    exact hR
                  apply viaOp
                  · intro R hR
                    conv => whnf
                    refine GuardC.run e4 ?_
                    conv => whnf
                    exact hR
                  apply viaOp
                  · intro R hR
                    conv => whnf
                    refine GuardC.run e4 ?_
                    conv => whnf
                    refine Need.mk ⟨by decide, rfl, rfl, by rw [castL_eq]; omega, by rw [castL_eq]; omega, by rw [castL_eq, castL_eq]; exact wf_okU hwf⟩ ?_
                    conv => whnf
                    exact hR
                  apply viaOp
                  · intro R hR
                    conv => whnf
                    refine GuardC.run e4 ?_
                    conv => whnf
                    exact hR
                  apply viaOp
                  · intro R hR
                    conv => whnf
                    refine GuardC.run e4 ?_
                    conv => whnf
                    exact hR
                  apply viaOp
                  · intro R hR
                    conv => whnf
                    refine GuardC.run e4 ?_
                    conv => whnf
                    refine Need.mk ⟨rfl, rfl, by omega, by omega⟩ ?_
                    conv => whnf
                    exact hR
                  apply viaOp
                  · intro R hR
                    conv => whnf
                    refine GuardC.run e4 ?_
                    conv => whnf
                    refine Need.mk ⟨rfl, by rw [castTo_eq, castL_eq, castL_eq]; have := rwait_len G1 G2 v; omega⟩ ?_
                    conv => whnf
                    exact hR
                  apply viaOp
                  · intro R hR
                    conv => whnf
                    refine GuardC.run e4 ?_
                    conv => whnf
                    refine Need.mk ⟨rfl, rfl, by simp only [castTo_eq, castL_eq]; exact (blockers_eq G1 G2 v).symm⟩ ?_
                    conv => whnf
                    exact hR
                  apply viaOp
                  · intro R hR
                    conv => whnf
                    refine GuardC.run e4 ?_
                    conv => whnf
                    exact hR
                  apply viaOp
                  · intro R hR
                    conv => whnf
                    refine GuardC.skip (neT e4) ?_
                    conv => whnf
                    exact hR
                  apply viaOp
                  · intro R hR
                    conv => whnf
                    exact hR
                  apply viaOp
                  · intro R hR
                    conv => whnf
                    refine GuardC.run (by rfl) ?_
                    conv => whnf
                    exact hR
                  apply viaOp
                  · intro R hR
                    conv => whnf
                    refine GuardC.run (by rfl) ?_
                    conv => whnf
                    exact hR
                  apply viaOp
                  · intro R hR
                    conv => whnf
                    refine GuardC.run (by rfl) ?_
                    conv => whnf
                    refine Need.mk ⟨by decide, rfl, rfl, by rw [castL_eq]; omega⟩ ?_
                    conv => whnf
                    exact hR
                  apply viaOp
                  · intro R hR
                    conv => whnf
                    refine GuardC.run (by rfl) ?_
                    conv => whnf
                    exact hR
                  apply viaOp
                  · intro R hR
                    conv => whnf
                    refine GuardC.run (by rfl) ?_
                    conv => whnf
                    exact hR
                  apply viaOp
                  · intro R hR
                    conv => whnf
                    refine GuardC.run (by rfl) ?_
                    conv => whnf
                    exact hR
                  apply viaOp
                  · intro R hR
                    conv => whnf
                    refine GuardC.run (by rfl) ?_
                    conv => whnf
                    refine Need.mk ⟨rfl, by rw [castTo_eq]; omega⟩ ?_
                    conv => whnf
                    exact hR
                  apply viaOp
                  · intro R hR
                    conv => whnf
                    refine GuardC.run (by rfl) ?_
                    conv => whnf
                    refine Need.mk ⟨rfl, rfl, by simp only [castTo_eq, castL_eq]⟩ ?_
                    conv => whnf
                    exact hR
                  apply viaOp
                  · intro R hR
                    conv => whnf
                    refine GuardC.run (by rfl) ?_
                    conv => whnf
                    exact hR
                  apply viaOp
                  · intro R hR
                    conv => whnf
                    refine GuardC.skip (by decide) ?_
                    conv => whnf
                    exact hR
                  refine Need.mk (by kernel_rfl) ?_
                  conv => whnf
                  exact hK
                refine condBr rfl (fun c => absurd (show (!true) = true from c) (by decide)) (fun c => ?_)
                conv => whnf
                exact hK2
              exact hK1
            conv => whnf
            exact ⟨j + 1, [], by omega, by omega, ⟨⟨⟨rfl, wrap_succ hj hlen2⟩, trivial⟩, ⟨rfl, ⟨rfl, rfl⟩, trivial, trivial, ⟨rfl, rfl⟩, trivial, trivial, trivial, trivial, trivial, trivial, trivial, rfl, rfl, trivial, trivial, rfl, rfl, trivial, trivial, rfl, trivial⟩, rfl⟩, rfl⟩
        · have hj := geN c4
          conv => whnf
          refine ⟨k + 1, [12, 13, 16, 17], by omega, by omega, ⟨⟨⟨rfl, wrap_succ hk hlen⟩, trivial⟩, ⟨rfl, ⟨rfl, rfl⟩, trivial, trivial, ⟨rfl, rfl⟩, trivial, trivial, ?_, ?_, ?_, ?_, trivial⟩, rfl⟩, rfl⟩
          · show AM.Item.slc lockK G1 = .slc lockK (playL (acts.take (k + 1))).1
            rw [hps]
          · show AM.Item.slc lockK G2 = .slc lockK (playL (acts.take (k + 1))).2
            rw [hps]
          · show AM.Item.slc lockK G1 = .slc lockK (playL (acts.take (k + 1))).1
            rw [hps]
          · show AM.Item.slc lockK G2 = .slc lockK (playL (acts.take (k + 1))).2
            rw [hps]
  · conv => whnf
end Go.Proofs.Ytljokmmgkecjbaa

namespace Go.Proofs.Ytljokmmgkecjbaa.lockCalls
open Go Go.AM Go.ChangeShapes Go.WideShapes Go.ChangeAt Go.RowKit
open Go.ChangeMaps (open_string shut_string)
theorem own : ownKnob Try.prog.godebug = none := by kernel_rfl
theorem laidOut : laidOutB Try.prog = true := by kernel_rfl
theorem lifted (os : Os) (started : os.Started) (H : Type) (enc : TypeId × Value → H) :
    ReturnsInHanded {} Try.checked os 15 .any (Rows.lockCallsSpec.pre6 enc Try.prog Try.f15 Rows.lockCallsRow.domain false) (Rows.lockCallsSpec.post enc Try.prog Try.f15 false true false false) := by
  refine returnsInHanded_of_change_sized (C := Try.checked) own started (by kernel_rfl) Try.func15
    (ChangeSpec.witness6 (enc := enc) (C := Try.checked) false ⟨#[], #[.slice none 0 0], []⟩ 8 (by kernel_rfl) (by kernel_rfl) (by kernel_rfl) (by kernel_rfl)) ?_
  intro W base args ds gs before hval0 hW hcnd hsz0 _
  have hval : ∀ (j : Nat) t v, Try.f15.params[j]? = some t → args[j]? = some v → Value.okWide Try.prog W .any base t v := hval0
  have hW' := hW
  obtain ⟨p, q, hA0, hV, rfl, hfz, hnd⟩ := hW
  have hA : DataW.TrodAll enc Try.prog W 0 (fun _ => true) true Try.f15.params.toList args.toList ds p := hA0
  rw [Try.params15] at hA hval
  obtain ⟨v0, vs0, d0, ds0, p0, q0, hargs, rfl, rfl, h0, r0⟩ := trodAll_cons hA
  obtain ⟨rfl, rfl, rfl⟩ := trodAll_nil r0
  obtain rfl : args = #[v0] := by cases args; simp_all
  obtain ⟨rfl, rfl⟩ := trodVars_none hV
  have k0 := h0
  have lt0 : ∀ x ∈ p0, x.block < W.heap.size := by obtain ⟨m, hm⟩ := k0; exact DataW.trod_lt m _ _ _ hm
  obtain ⟨a0, R0⟩ := open_acts (hval 0 51 v0 rfl rfl) h0
  have o0 : v0.oneCell' = true := by obtain ⟨A, c, rfl, _⟩ := R0; rfl
  clear hA0 hval0 hsz0
  have hm : ∀ (t : Nat) (it : AM.Item) (v : Value), ([.ro actK a0] : List AM.Item)[t]? = some it → ([v0] : List Value)[t]? = some v → ∃ (K : Kind) (xs : List K.T), it = .ro K xs ∧ RoRow W (fun _ => False) K xs v := by
    intro t it v h1 h2
    match t, h1, h2 with
    | 0, h1, h2 => cases h1; cases h2; exact ⟨actK, a0, rfl, R0⟩
    | n + 1, h1, h2 => simp at h1
  refine (calls_ro (env := [v0]) (calls_base a0) rfl W hm ⟨_, _, rfl, ⟨rfl, o0⟩, rfl⟩).mono fun e W' ⟨he, bel⟩ => ?_
  subst he
  exact ⟨_, rfl, _, _, _, [], _, [], hW', trodAll_mk1 (shut_bool Try.underlying4 _), (trodAll_cons_mk (Below.trod laidOut (by kernel_rfl) (of_decide_eq_true (by kernel_rfl)) k0 bel lt0) trodAll_mk0), rfl, bel.frame _, fun h => by cases h⟩
theorem over : Rows.lockCallsRow.holds Try.pinned (OpenSpec.ofChange Rows.lockCallsSpec) :=
  OpenClaim.holds_of_wide 15 Try.f15 rfl rfl rfl rfl rfl rfl rfl ⟨rfl, rfl, rfl, rfl, rfl⟩ rfl rfl rfl rfl rfl (by kernel_rfl) Try.func15 (by kernel_rfl)
    (of_decide_eq_true (by kernel_rfl)) (by unfold Func.isWrapper; first | (rw [if_pos (by decide +kernel)]; kernel_rfl) | (rw [if_neg (by decide +kernel)]; exact ⟨rfl, rfl⟩))
    (fun os started H enc _ => lifted os started H enc)
theorem proved : Rows.LockCallsSaid := over
end Go.Proofs.Ytljokmmgkecjbaa.lockCalls
namespace Go.Proofs.Ytljokmmgkecjbaa
theorem lockCalls_holds : Rows.LockCallsSaid := lockCalls.proved
#print axioms lockCalls_holds
end Go.Proofs.Ytljokmmgkecjbaa
