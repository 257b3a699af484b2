/- Lemmas for the claim's theorem. -/
import Derived.Test.YtljokmmgkecjbaaQe
import Derived.Test.YtljokmmgkecjbaaQc
import Derived.ChangeArms
import Derived.Deep.Slices
set_option linter.unusedVariables false
set_option linter.unusedSimpArgs false
set_option maxRecDepth 100000
namespace Go.Proofs.Ytljokmmgkecjbaa
open Go Go.AM
/-! what holds of a manager's locks at any time -/
structure WF (held queue : List Lk) : Prop where
  vh : ∀ x ∈ held, validL x = true
  vq : ∀ x ∈ queue, validL x = true
  ch : held.Pairwise fun x y => confL x y = false
theorem blk_free {held before : List Lk} {l : Lk} (h : (blkM held before l).isEmpty = true) : (∀ x ∈ held, confL x l = false) ∧ ∀ x ∈ before, confL x l = true → conflB (held.filter (ofB l.u)) x = true := by
  have hk : ∀ k, k ∉ keysM (blkM held before l) := fun k hk => by
    rw [List.isEmpty_iff] at h
    rw [h] at hk; cases hk
  refine ⟨fun x hx => ?_, fun x hx hc => ?_⟩
  · cases hc : confL x l with
    | false => rfl
    | true => exact (hk x.u ((keys_blk _ _ _ _).2 (.inl ⟨x, hx, hc, rfl⟩))).elim
  · cases hb : conflB (held.filter (ofB l.u)) x with
    | true => rfl
    | false => exact (hk x.u ((keys_blk _ _ _ _).2 (.inr ⟨x, hx, by rw [hc, hb]; rfl, rfl⟩))).elim
theorem pair_snoc {held : List Lk} {l : Lk} (h : held.Pairwise fun x y => confL x y = false) (hl : ∀ x ∈ held, confL x l = false) : (held ++ [l]).Pairwise fun x y => confL x y = false := by
  rw [List.pairwise_append]
  exact ⟨h, List.pairwise_singleton _ _, fun x hx y hy => by simp at hy; subst hy; exact hl x hx⟩
theorem grant_wf : ∀ (held pre post : List Lk), WF held (pre ++ post) → WF (grantL held pre post).1 (grantL held pre post).2.1
  | held, pre, [], h => by simpa [grantL] using h
  | held, pre, l :: post, h => by
    unfold grantL
    split
    · rename_i he
      have := blk_free he
      exact grant_wf (held ++ [l]) pre post ⟨fun x hx => by
        rcases List.mem_append.1 hx with hx | hx
        · exact h.vh x hx
        · simp at hx; subst hx; exact h.vq x (by simp), fun x hx => h.vq x (by
          rcases List.mem_append.1 hx with hx | hx
          · simp [hx]
          · simp [hx]), pair_snoc h.ch this.1⟩
    · exact grant_wf held (pre ++ [l]) post (by rw [List.append_assoc]; exact h)
theorem WF.filter {held queue : List Lk} (h : WF held queue) (p q : Lk → Bool) : WF (held.filter p) (queue.filter q) :=
  ⟨fun x hx => h.vh x ((List.mem_filter.1 hx).1), fun x hx => h.vq x ((List.mem_filter.1 hx).1), h.ch.sublist List.filter_sublist⟩
theorem filter_tt (held : List Lk) : held.filter (fun _ => true) = held := by simp
theorem WF.filterQ {held queue : List Lk} (h : WF held queue) (q : Lk → Bool) : WF held (queue.filter q) :=
  ⟨h.vh, fun x hx => h.vq x ((List.mem_filter.1 hx).1), h.ch⟩
theorem ask_wf {held queue : List Lk} {l : Lk} (h : WF held queue) (hv : validL l = true) : WF (askL held queue l).2.1 (askL held queue l).2.2 := by
  unfold askL
  split
  · rename_i he
    have := blk_free he
    exact ⟨fun x hx => by
      rcases List.mem_append.1 hx with hx | hx
      · exact h.vh x hx
      · simp at hx; subst hx; exact hv, h.vq, pair_snoc h.ch this.1⟩
  · split
    · exact h
    · exact ⟨h.vh, fun x hx => by
        rcases List.mem_append.1 hx with hx | hx
        · exact h.vq x hx
        · simp at hx; subst hx; exact hv, h.ch⟩
theorem req_wf {held queue : List Lk} {l : Lk} (h : WF held queue) : WF (reqL held queue l).2.1 (reqL held queue l).2.2 := by
  unfold reqL
  split
  · exact h
  · rename_i hv
    split
    · exact h
    · split
      · exact ask_wf h hv
      · split
        · exact h
        · exact ask_wf (grant_wf _ _ _ (by simpa using h.filterQ _)) hv
theorem rel_wf {held queue : List Lk} {u : Int} (h : WF held queue) : WF (relL held queue u).1 (relL held queue u).2.1 :=
  grant_wf _ _ _ (by simpa using h.filter _ _)
theorem do_wf {held queue : List Lk} {a : Ac} (h : WF held queue) : WF (doL held queue a).held (doL held queue a).queue := by
  unfold doL
  split
  · exact grant_wf _ _ _ (by simpa using h.filterQ _)
  · split
    · exact rel_wf h
    · exact req_wf h
theorem playF_wf : ∀ (acts : List Ac) (s : List Lk × List Lk), WF s.1 s.2 → WF (playF acts s).1 (playF acts s).2
  | [], _, h => h
  | a :: acts, s, h => playF_wf acts _ (do_wf (a := a) h)
theorem wf0 : WF [] [] := ⟨(fun _ h => absurd h (List.not_mem_nil)), (fun _ h => absurd h (List.not_mem_nil)), List.Pairwise.nil⟩
theorem play_wf (acts : List Ac) : WF (playL acts).1 (playL acts).2 := playF_wf acts _ wf0
theorem valid_parts {l : Lk} (h : validL l = true) : 1 ≤ l.u ∧ l.u ≤ 1099511627776 ∧ 1 ≤ l.i ∧ l.i ≤ 1099511627776 ∧ emptyB l.rg = false := by
  simp [validL, numB] at h
  obtain ⟨⟨⟨⟨⟨a, b⟩, c, d⟩, _⟩, _⟩, e⟩ := h
  exact ⟨a, b, c, d, by simpa using e⟩
/-- two ranges that are not empty and reach each other overlap -/
theorem reach_overlap {a b : Rng} (ha : emptyB a = false) (hb : emptyB b = false) (h1 : (a.e || !sLess a.hi b.lo) = true) (h2 : (b.e || !sLess b.hi a.lo) = true) : emptyB (meetR b a) = false := by
  obtain ⟨lo, hi, e⟩ := a
  obtain ⟨lo2, hi2, e2⟩ := b
  cases e <;> cases e2 <;>
  simp only [emptyB, meetR, Bool.and_true, Bool.and_false, Bool.true_and, Bool.false_and, Bool.true_or, Bool.false_or, if_true, if_false, Bool.false_eq_true, Bool.not_true, Bool.not_false,
    rank_sLess (L := [lo, hi, lo2, hi2]), less_max, min_less, List.mem_cons, true_or, or_true, Bool.or_eq_false_iff, Bool.not_eq_true', decide_eq_false_iff_not] at ha hb h1 h2 ⊢ <;> omega
end Go.Proofs.Ytljokmmgkecjbaa

namespace Go.Proofs.Ytljokmmgkecjbaa
open Go Go.AM
theorem awake_ok {m K} (hk : K (.sc (.bool true)) m) : TripleF Try.prog 48 [] m K :=
  frame_same awake_base rfl [] rfl rfl trivial rfl rfl hk
noncomputable def qt46e : QTab := fun f args => match f, args with
  | 48, [] => some (none, .sc (.bool true))
  | f, args => qt46c f args
theorem qt46eok : qt46e.Ok Try.prog := by
  intro f args p r h hp m k hk
  unfold qt46e at h
  split at h
  · cases h; exact awake_ok hk
  · exact qt46cok f args p r h hp m k hk
noncomputable def allS (args : List AVal) (m : List AM.Item) (k : AVal → List AM.Item → Prop) : Prop := match args with
  | [.sc (.fld t 0)] => mgrS t m fun a b xs ys => Need (xs.length ≤ 1048576 ∧ ys.length ≤ 1048576) (snocK m (.slc lockK xs) fun m1 n1 => snocK m1 (.slc lockK ys) fun m2 n2 => k (.tup [(false, [.h n1]), (false, [.h n2])]) m2)
  | _ => False
theorem allS_ok {args : List AVal} {m : List AM.Item} {k : AVal → List AM.Item → Prop} (h : allS args m k) : TripleF Try.prog 58 args m k := by
  unfold allS at h
  split at h
  · rename_i t
    obtain ⟨a, b, xs, ys, ⟨⟨hx, hy⟩, h⟩, h1, h2, h3⟩ := mgrS_get h
    simp only [snocK_eq, List.length_append, List.length_singleton, List.append_assoc] at h
    exact frame_add (extra := [.slc lockK xs, .slc lockK ys]) (all_base xs ys hx hy) [t, a, b] rfl rfl h1 h2 h3 h
  · exact h.elim
def few46S (args : List AVal) (m : List AM.Item) (k : AVal → List AM.Item → Prop) : Prop := match args with
  | [.sc (.h t), .sc (.int _ .i64 n)] => rowS m t actK (fun acts => .sc (.bool (fewA acts n))) k
  | _ => False
theorem few46S_ok {args : List AVal} {m : List AM.Item} {k : AVal → List AM.Item → Prop} (h : few46S args m k) : TripleF Try.prog 47 args m k := by
  unfold few46S at h
  split at h
  · rename_i t _ n
    obtain ⟨acts, hk, hf⟩ := rowS_fit h
    exact TripleF.std (frame_ro2 (few46_base acts n) [t] rfl rfl hf fun r hr => hr ▸ hk)
  · exact h.elim
noncomputable def sp46f (f : FuncId) (args : List AVal) (m : List AM.Item) (k : AVal → List AM.Item → Prop) : Prop := match f with
  | 47 => few46S args m k
  | 49 => newS args m k
  | 51 => doS args m k
  | 58 => allS args m k
  | _ => False
theorem sp46f_ok : ∀ f args m k, sp46f f args m k → TripleF Try.prog f args m k := by
  intro f args m k h
  unfold sp46f at h
  split at h
  · exact few46S_ok h
  · exact newS_ok h
  · exact doS_ok h
  · exact allS_ok h
  · exact h.elim
noncomputable def E12 : Eng := mkEngX Try.prog kinds46b eqT qt46e sp46f noQ maps46 (fun _ _ _ => none) (fun _ => false)
theorem E12_ok : E12.Ok := mkEngX_ok mixedT qt46eok sp46f_ok (fun _ _ _ _ _ h => by cases h) eqT_ok maps46_ok (fun _ _ _ _ h => by cases h)
theorem few_len {acts : List Ac} {n : Int} (h : fewA acts n = true) : (acts.length : Int) ≤ n := by
  simp [fewA] at h; exact h.1
theorem compat_no {held queue : List Lk} (hwf : WF held queue) {i j : Nat} (hi : i < held.length) (hj : j < i) {Xu Xi : Int} {Xlo Xhi : ByteArray} {Xe Xx : Bool} (hX : (⟨Xu, Xi, Xlo, Xhi, Xe, Xx⟩ : Lk) = held.getD i lk0) (Y : Lk) (hY : Y = held.getD j lk0)
    (h1 : (Xu != Y.u) = true) (h2 : (Xi == Y.i) = true) (h3 : Xx = true ∨ Y.x = true) (h4 : Xe = true ∨ (Op.bytesLess Y.lo.toList Xhi.toList || Y.lo.toList == Xhi.toList) = true) (h5 : Y.e = true ∨ (Op.bytesLess Xlo.toList Y.hi.toList || Xlo.toList == Y.hi.toList) = true) : False := by
  have hj' : j < held.length := by omega
  rw [List.getD_eq_getElem?_getD, List.getElem?_eq_getElem hi] at hX
  rw [List.getD_eq_getElem?_getD, List.getElem?_eq_getElem hj'] at hY
  have hX : (⟨Xu, Xi, Xlo, Xhi, Xe, Xx⟩ : Lk) = held[i] := hX
  have hY : Y = held[j] := hY
  have hc : confL held[j] held[i] = false := List.pairwise_iff_getElem.1 hwf.ch j i hj' hi hj
  have vx := valid_parts (hwf.vh _ (List.getElem_mem hi))
  have vy := valid_parts (hwf.vh _ (List.getElem_mem hj'))
  rw [← hX] at vx hc
  rw [← hY] at vy hc
  have h4 : ((Lk.rg ⟨Xu, Xi, Xlo, Xhi, Xe, Xx⟩).e || !sLess (Lk.rg ⟨Xu, Xi, Xlo, Xhi, Xe, Xx⟩).hi Y.rg.lo) = true := by
    rcases h4 with h | h
    · show (Xe || _) = true
      rw [h]; rfl
    · have := sEq_or Y.lo Xhi
      unfold sLess sEq at this
      show (Xe || !sLess Xhi Y.lo) = true
      unfold sLess
      rw [← this, h, Bool.or_true]
  have h5 : (Y.rg.e || !sLess Y.rg.hi (Lk.rg ⟨Xu, Xi, Xlo, Xhi, Xe, Xx⟩).lo) = true := by
    rcases h5 with h | h
    · show (Y.e || _) = true
      rw [h]; rfl
    · have := sEq_or Xlo Y.hi
      unfold sLess sEq at this
      show (Y.e || !sLess Y.hi Xlo) = true
      unfold sLess
      rw [← this, h, Bool.or_true]
  have ho := reach_overlap vx.2.2.2.2 vy.2.2.2.2 h4 h5
  simp only [confL, ho, Bool.not_false, Bool.and_true] at hc
  simp only [bne_iff_ne, ne_eq, beq_iff_eq] at h1 h2
  have e1 : (Y.u != Xu) = true := by simpa using fun e => h1 e.symm
  have e2 : (Y.i == Xi) = true := by simpa using h2.symm
  have e3 : (Y.x || Xx) = true := by rcases h3 with h | h <;> rw [h] <;> simp
  rw [e1, e2, e3] at hc
  cases hc
theorem compatible_base (acts : List Ac) : TripleF Try.prog 12 [.sc (.h 0)] [.ro actK acts] (fun r _ => r = .sc (.bool true) ∧ r.below 0 = true) := by
  refine base_of_awp (R := fun r => r = .sc (.bool true)) E12_ok Try.func12 rfl (by kernel_rfl) ?_
  conv => whnf
  refine Cast.mk _ _ ?_
  conv => whnf
  refine Br.mk (fun c1 => ?_) (fun c1 => ?_)
  · conv => whnf
  have c1 : fewA acts 50 = true := by
    have c1 : (!fewA acts 50) = false := c1
    simpa using c1
  have hl50 := few_len c1
  conv => whnf
  refine Know.mk fun hlen => ?_
  conv => whnf
  refine LoopF.inv Nat (fun k => k ≤ acts.length) (fun k => [(21, .sc (.int false .i64 (k : Int)))]) (fun k => acts.length - k)
    (fun k => [.ro actK acts, .box 112 [.h 4, .h 5], .gone, .gone, .slc lockK (playL (acts.take k)).1, .slc lockK (playL (acts.take k)).2]) (fun _ => Nat.le_add_right 4 2) 0 [2, 3]
    (Nat.zero_le _) ⟨⟨⟨rfl, rfl⟩, trivial⟩, ⟨rfl, ⟨rfl, rfl⟩, trivial, trivial, rfl, rfl, trivial⟩, rfl⟩ ?_
  rintro k h1
  conv => whnf
  refine Br.mk (fun c2 => ?_) (fun c2 => ?_)
  · have hk := ltN c2
    refine Need.mk (show 0 ≤ (k : Int) ∧ (k : Int) < (acts.length : Nat) from ⟨by omega, by omega⟩) ?_
    conv => whnf
    have hpl := play_len (acts.take k)
    rw [List.length_take] at hpl
    refine Need.mk (show 4 ≠ 5 by decide) (Cast.mk _ _ (Cast.mk _ _ (Need.mk (by omega) ?_)))
    conv => whnf
    have hwf : WF (doL (playL (acts.take k)).1 (playL (acts.take k)).2 (nth acts k ac0)).held (doL (playL (acts.take k)).1 (playL (acts.take k)).2 (nth acts k ac0)).queue := do_wf (play_wf _)
    have hdl := do_len (playL (acts.take k)).1 (playL (acts.take k)).2 (nth acts k ac0)
    refine Need.mk (by decide) (Cast.mk _ _ (Cast.mk _ _ (Need.mk ⟨?_, ?_⟩ ?_)))
    · show (doL (playL (acts.take k)).1 (playL (acts.take k)).2 (nth acts k ac0)).held.length ≤ 1048576
      omega
    · show (doL (playL (acts.take k)).1 (playL (acts.take k)).2 (nth acts k ac0)).queue.length ≤ 1048576
      omega
    have hps := play_snoc hk
    rw [← nth_eq] at hps
    generalize hD : doL (playL (acts.take k)).1 (playL (acts.take k)).2 { k := (nth acts ((k : Int)).toNat actK.d).k, l := { u := (nth acts ((k : Int)).toNat actK.d).l.u, i := (nth acts ((k : Int)).toNat actK.d).l.i, lo := (nth acts ((k : Int)).toNat actK.d).l.lo, hi := (nth acts ((k : Int)).toNat actK.d).l.hi, e := (nth acts ((k : Int)).toNat actK.d).l.e, x := (nth acts ((k : Int)).toNat actK.d).l.x } } = D
    have hD' : doL (playL (acts.take k)).1 (playL (acts.take k)).2 (nth acts k ac0) = D := hD
    rw [hD'] at hwf hdl hps
    conv => whnf
    refine Know.mk fun hlen2 => ?_
    conv => whnf
    refine LoopF.inv Nat (fun i => i ≤ D.held.length) (fun i => [(35, .sc (.int false .i64 (i : Int)))]) (fun i => D.held.length - i)
      (fun i => [.ro actK acts, .box 112 [.h 7, .h 8], .gone, .gone, .gone, .gone, .gone, .slc lockK D.held, .slc lockK D.queue, .gone, .slc lockK D.held, .gone]) (fun _ => Nat.le_refl _) 0 []
      (Nat.zero_le _) ⟨⟨⟨rfl, rfl⟩, trivial⟩, ⟨rfl, ⟨rfl, rfl⟩, trivial, trivial, trivial, trivial, trivial, rfl, rfl, trivial, rfl, trivial, trivial⟩, rfl⟩ ?_
    rintro i h2
    conv => whnf
    refine Br.mk (fun c3 => ?_) (fun c3 => ?_)
    · have hi := ltN c3
      refine Need.mk (show 0 ≤ (i : Int) ∧ (i : Int) < (D.held.length : Nat) from ⟨by omega, by omega⟩) ?_
      conv => whnf
      refine Need.mk (show 0 ≤ (i : Int) ∧ (i : Int) ≤ (D.held.length : Nat) from ⟨by omega, by omega⟩) ?_
      refine Need.mk (show 0 ≤ (0 : Int) ∧ (0 : Int) ≤ (i : Nat) from ⟨by omega, by omega⟩) ?_
      conv => whnf
      have hX : nth D.held ((i : Int)).toNat lockK.d = D.held.getD i lk0 := nth_eq _ _ _
      generalize nth D.held ((i : Int)).toNat lockK.d = X at hX
      obtain ⟨Xu, Xi, Xlo, Xhi, Xe, Xx⟩ := X
      conv => whnf
      refine LoopF.inv Nat (fun j => j ≤ i) (fun j => [(44, .sc (.int false .i64 (j : Int)))]) (fun j => i - j)
        (fun j => [.ro actK acts, .box 112 [.h 7, .h 8], .gone, .gone, .gone, .gone, .gone, .slc lockK D.held, .slc lockK D.queue, .gone, .slc lockK D.held, .gone, .box 58 (Lk.S ⟨Xu, Xi, Xlo, Xhi, Xe, Xx⟩)]) (fun _ => Nat.le_refl _) 0 []
        (Nat.zero_le _) ⟨⟨⟨rfl, rfl⟩, trivial⟩, ⟨rfl, ⟨rfl, rfl⟩, trivial, trivial, trivial, trivial, trivial, rfl, rfl, trivial, rfl, trivial, ⟨rfl, rfl⟩, trivial⟩, rfl⟩ ?_
      rintro j h3
      conv => whnf
      refine Br.mk (fun c4 => ?_) (fun c4 => ?_)
      · have hj : j < i := ltN (show decide ((j : Int) < ((i : Nat) : Int)) = true from c4)
        refine Need.mk (show 0 ≤ (j : Int) ∧ (j : Int) < (i : Nat) from ⟨by omega, by omega⟩) ?_
        have hY : nth D.held (((none : Option Int).getD 0).toNat + ((j : Int)).toNat) lockK.d = D.held.getD j lk0 := by
          show nth D.held (0 + j) lk0 = D.held.getD j lk0
          rw [Nat.zero_add]; exact nth_eq _ _ _
        have hconf := compat_no hwf hi hj hX
        conv => whnf
        repeat' ((conv => whnf); first | refine Br.mk (fun _ => ?_) (fun _ => ?_))
        all_goals (try (conv => whnf))
        all_goals first
          | exact ⟨j + 1, [], by omega, by omega, ⟨⟨⟨rfl, wrap_succ hj (by omega)⟩, trivial⟩, ⟨rfl, ⟨rfl, rfl⟩, trivial, trivial, trivial, trivial, trivial, rfl, rfl, trivial, rfl, trivial, ⟨rfl, rfl⟩, trivial⟩, rfl⟩, rfl⟩
          | exact absurd trivial (fun _ => hconf _ hY (by assumption) (by assumption) (by first | exact .inl (by assumption) | exact .inr (by assumption)) (by first | exact .inl (by assumption) | exact .inr (by assumption)) (by first | exact .inl (by assumption) | exact .inr (by assumption)))
      · have c4 : i ≤ j := geN (show decide ((j : Int) < ((i : Nat) : Int)) = false from c4)
        conv => whnf
        refine ⟨i + 1, [], by omega, by omega, ⟨⟨⟨rfl, wrap_succ hi hlen2⟩, trivial⟩, ⟨rfl, ⟨rfl, rfl⟩, trivial, trivial, trivial, trivial, trivial, rfl, rfl, trivial, rfl, trivial, trivial⟩, rfl⟩, rfl⟩
    · have c3 := geN c3
      conv => whnf
      refine ⟨k + 1, [7, 8], by omega, by omega, ⟨⟨⟨rfl, wrap_succ hk hlen⟩, trivial⟩, ⟨rfl, ⟨rfl, rfl⟩, trivial, trivial, ?_, ?_, trivial⟩, rfl⟩, rfl⟩
      · show AM.Item.slc lockK D.held = .slc lockK (playL (acts.take (k + 1))).1
        rw [hps]
      · show AM.Item.slc lockK D.queue = .slc lockK (playL (acts.take (k + 1))).2
        rw [hps]
  · conv => whnf
end Go.Proofs.Ytljokmmgkecjbaa

namespace Go.Proofs.Ytljokmmgkecjbaa
open Go Go.AM Go.ChangeShapes Go.RowKit Go.ChangeAt Go.WideShapes
theorem calls_ro {P : Program} {f : FuncId} {args : List AVal} {m : List AM.Item} {env vs : List Value} (h : TripleF P f args m (fun r _ => r = .sc (.bool true) ∧ r.below 0 = true)) (hl : env.length = m.length) (W : World)
    (hm : ∀ (t : Nat) (it : AM.Item) (v : Value), m[t]? = some it → env[t]? = some v → ∃ (K : Kind) (xs : List K.T), it = .ro K xs ∧ RoRow W (fun _ => False) K xs v) (hr : RepL env args vs) :
    Calls P f ⟨vs⟩ W fun e W' => e = .returned (.bool true) ∧ Below W.heap.size W W' := by
  obtain ⟨_, hc⟩ := h W (fun _ => False) env vs W ⟨fun _ _ => False, hl, Keep.refl _ _, fun t it v h1 h2 => by
    obtain ⟨K, xs, rfl, hro⟩ := hm t it v h1 h2
    exact ⟨fun _ h => h, hro⟩, fun _ _ _ h => h, fun _ _ _ h => h.elim, fun _ _ h => h.elim⟩ hr
  refine hc.mono ?_
  rintro e w' ⟨r, m', env', v, rfl, ⟨rfl, _⟩, _, hv, fp, hf⟩
  have hv : v = .bool true := hv
  subst hv
  exact ⟨rfl, hf.keep.os, hf.keep.tape, hf.keep.output, hf.keep.size, fun k hk => hf.keep.block k hk (fun h => h)⟩
section
variable {H : Type} {enc : TypeId × Value → H} {P : Program} {w : World} {base : Nat} {spare : Nat → Bool} {held : Bool} {r : Go.Reach} {b0 : Nat} {v : Value} {d : DataW H} {p : List MemPlace}
theorem struct_cells {n : Nat} {t : TypeId} {fs : Array Field} {cs : List Value} {x : DataW H × List MemPlace} (hs : P.underlying t = some (.struct fs)) (h : DataW.trod enc P w base spare held n t cs = some x) :
    cs.length = P.cellsOf t ∧ ∀ (i : Nat) (f : Field), fs[i]? = some f → ∃ n y, DataW.trod enc P w base spare held n f.type ((cs.drop f.offset).take (P.cellsOf f.type)) = some y := by
  obtain ⟨xs, m, _, _, hl, hlen, hfi⟩ := DataW.trod_struct hs h
  refine ⟨hl, fun i f hi => ?_⟩
  have hlt : i < xs.length := by rw [hlen]; exact (Array.getElem?_eq_some_iff.1 hi).1
  have := hfi i f hi
  rw [List.getElem?_eq_getElem hlt] at this
  exact ⟨m, _, this⟩
theorem open_row {t e : TypeId} {K : Kind} (ht : P.underlying t = some (.slice e)) (hc : P.cellsOf e = K.sz)
    (hel : ∀ n cs x, DataW.trod enc P w base spare held n e cs = some x → ∃ a : K.T, cs = K.enc a) (hv : Value.okWide P w r b0 t v) (h : DataW.Trod enc P w base spare held t v d p) :
    ∃ xs : List K.T, RoRow w (fun _ => False) K xs v := by
  obtain ⟨a, len, cap, rfl⟩ := okWide_slice ht hv
  obtain ⟨fuel, hf⟩ := h
  have hf : DataW.trod enc P w base spare held fuel t [.slice a len cap] = some (d, p) := hf
  rcases Go.Deep.open_slice ht hf with ⟨h0, _⟩ | ⟨A, l, c, m, n, D, Pl, h0, hb, hlc, hcm, hm, _, hi⟩
  · cases h0
    exact ⟨[], none, 0, rfl, ⟨Nat.zero_le _, Nat.le_refl _⟩, fun _ => ⟨rfl, rfl⟩, fun h => absurd rfl h⟩
  · cases h0
    have hlm : len ≤ m := by rw [hm]; split <;> omega
    have hex : ∀ i, i < len → ∃ x : K.T, w.cells? base (A.add (i * P.cellsOf e)) (P.cellsOf e) = some (K.enc x) := fun i hil => by
      obtain ⟨cs', h1, h2⟩ := hi i (by omega)
      obtain ⟨x, rfl⟩ := hel _ _ _ h2
      exact ⟨x, h1⟩
    haveI : Inhabited K.T := ⟨K.d⟩
    obtain ⟨f, hf⟩ := Go.Deep.choose_lt hex
    refine ⟨(List.range len).map f, some A, cap, by simp, ⟨by simp; omega, by simpa using hlc⟩, (fun h => nomatch h), fun hne => ?_⟩
    have hpos : 0 < len := by
      rcases Nat.eq_zero_or_pos len with h | h
      · subst h; exact absurd rfl hne
      · exact h
    have hcell : ∀ i j u, i < len → (K.enc (f i))[j]? = some u → w.cell? ((A.add (i * P.cellsOf e)).add j) = some u := fun i j u hil hj => by
      obtain ⟨hlen, _, hget⟩ := World.cells?_some (hf i hil)
      have hjl : j < P.cellsOf e := by
        have := (List.getElem?_eq_some_iff.1 hj).1
        rw [hc, ← K.len (f i)]; exact this
      have := hget j hjl
      rw [this, hj]
    have hspot : A.spot = none ∧ A.block < w.heap.size := by
      have hlen0 : 0 < (K.enc (f 0)).length := by rw [K.len]; exact K.pos
      have h1 := hcell 0 0 _ hpos (List.getElem?_eq_getElem hlen0)
      rw [Nat.zero_mul] at h1
      have h1 : w.cell? A = some _ := h1
      refine ⟨?_, World.block_lt_of_cell? w _ h1⟩
      unfold World.cell? at h1
      split at h1
      · split at h1
        · cases h1
        · rename_i hs
          cases hsp : A.spot with
          | none => rfl
          | some _ => rw [hsp] at hs; simp at hs
      · cases h1
    obtain ⟨bl, off, sp⟩ := A
    simp only at hspot
    obtain ⟨rfl, hbl⟩ := hspot
    refine ⟨bl, off, rfl, fun h => h, hbl, fun j u hj => ?_⟩
    have hjl : j < len * K.sz := by
      have := (List.getElem?_eq_some_iff.1 hj).1
      rw [K.cells_length] at this
      simpa using this
    have hdm := Nat.div_add_mod j K.sz
    have hmod := Nat.mod_lt j K.pos
    have hdiv : j / K.sz < len := Nat.div_lt_of_lt_mul (by rw [Nat.mul_comm]; exact hjl)
    have hg := K.cells_get ((List.range len).map f) (j / K.sz) (j % K.sz) (by simpa using hdiv) hmod
    rw [Nat.mul_comm (j / K.sz), hdm, hj] at hg
    have hgd : ((List.range len).map f).getD (j / K.sz) K.d = f (j / K.sz) := by
      rw [List.getD_eq_getElem?_getD, List.getElem?_map, List.getElem?_range hdiv]; rfl
    rw [hgd] at hg
    have := hcell (j / K.sz) (j % K.sz) u hdiv hg.symm
    rw [Go.Deep.add_add, hc, Nat.mul_comm, hdm] at this
    rw [← this]
    unfold Addr.add
    by_cases hj0 : j = 0
    · subst hj0; simp
    · simp [hj0]
end
section
variable {H : Type} {enc : TypeId × Value → H} {w : World} {base : Nat} {spare : Nat → Bool} {held : Bool} {r : Go.Reach} {b0 : Nat} {v : Value} {d : DataW H} {p : List MemPlace}
theorem cells33 {n : Nat} {cs : List Value} {x : DataW H × List MemPlace} (h : DataW.trod enc Try.prog w base spare held n 33 cs = some x) : ∃ lo hi : ByteArray, ∃ e : Bool, cs = [.string lo, .string hi, .bool e] := by
  obtain ⟨hl, hf⟩ := struct_cells Try.underlying33 h
  obtain ⟨a, b, c, rfl⟩ := list3 (hl.trans (by kernel_rfl))
  obtain ⟨_, _, h0⟩ := hf 0 _ rfl
  obtain ⟨_, _, h1⟩ := hf 1 _ rfl
  obtain ⟨_, _, h2⟩ := hf 2 _ rfl
  obtain ⟨lo, rfl⟩ := cell_str (c := a) h0
  obtain ⟨hi, rfl⟩ := cell_str (c := b) h1
  obtain ⟨e, rfl⟩ := cell_bool (c := c) h2
  exact ⟨lo, hi, e, rfl⟩
theorem list6 {α : Type} {l : List α} (h : l.length = 6) : ∃ a b c d e f, l = [a, b, c, d, e, f] := by
  match l, h with
  | [a, b, c, d, e, f], _ => exact ⟨a, b, c, d, e, f, rfl⟩
theorem list7 {α : Type} {l : List α} (h : l.length = 7) : ∃ a b c d e f g, l = [a, b, c, d, e, f, g] := by
  match l, h with
  | [a, b, c, d, e, f, g], _ => exact ⟨a, b, c, d, e, f, g, rfl⟩
theorem cells58 {n : Nat} {cs : List Value} {x : DataW H × List MemPlace} (h : DataW.trod enc Try.prog w base spare held n 58 cs = some x) : ∃ l : Lk, cs = lockK.enc l := by
  obtain ⟨hl, hf⟩ := struct_cells Try.underlying58 h
  obtain ⟨a0, a1, a2, a3, a4, a5, rfl⟩ := list6 (hl.trans (by kernel_rfl))
  obtain ⟨_, _, h0⟩ := hf 0 _ rfl
  obtain ⟨_, _, h1⟩ := hf 1 _ rfl
  obtain ⟨_, _, h2⟩ := hf 2 _ rfl
  obtain ⟨_, _, h3⟩ := hf 3 _ rfl
  obtain ⟨u, rfl⟩ := cell_i64 (c := a0) h0
  obtain ⟨i, rfl⟩ := cell_i64 (c := a1) h1
  obtain ⟨lo, hi, e, h2⟩ := cells33 h2
  have h2 : [a2, a3, a4] = _ := h2
  cases h2
  obtain ⟨x, rfl⟩ := cell_bool (c := a5) h3
  exact ⟨⟨u, i, lo, hi, e, x⟩, rfl⟩
theorem cells60 {n : Nat} {cs : List Value} {x : DataW H × List MemPlace} (h : DataW.trod enc Try.prog w base spare held n 60 cs = some x) : ∃ l : Ac, cs = actK.enc l := by
  obtain ⟨hl, hf⟩ := struct_cells Try.underlying60 h
  obtain ⟨a, a0, a1, a2, a3, a4, a5, rfl⟩ := list7 (hl.trans (by kernel_rfl))
  obtain ⟨_, _, h0⟩ := hf 0 _ rfl
  obtain ⟨_, _, h1⟩ := hf 1 _ rfl
  obtain ⟨k, rfl⟩ := cell_i64 (c := a) h0
  obtain ⟨l, h1⟩ := cells58 h1
  have h1 : [a0, a1, a2, a3, a4, a5] = _ := h1
  cases h1
  exact ⟨⟨k, l⟩, rfl⟩
theorem open_acts (hv : Value.okWide Try.prog w r b0 51 v) (h : DataW.Trod enc Try.prog w base spare held 51 v d p) : ∃ xs : List Ac, RoRow w (fun _ => False) actK xs v :=
  open_row (K := actK) Try.underlying51 (by kernel_rfl) (fun n cs x h => cells60 h) hv h
theorem open_locks (hv : Value.okWide Try.prog w r b0 69 v) (h : DataW.Trod enc Try.prog w base spare held 69 v d p) : ∃ xs : List Lk, RoRow w (fun _ => False) lockK xs v :=
  open_row (K := lockK) Try.underlying69 (by kernel_rfl) (fun n cs x h => cells58 h) hv h
theorem open_lock (hv : Value.okWide Try.prog w r b0 58 v) (h : DataW.Trod enc Try.prog w base spare held 58 v d p) : ∃ l : Lk, v = .agg ⟨lockK.enc l⟩ := by
  obtain ⟨cs, rfl, hsz⟩ := okWide_struct Try.underlying58 hv
  obtain ⟨fuel, hf⟩ := h
  obtain ⟨l, hl⟩ := cells58 hf
  refine ⟨l, ?_⟩
  congr 1
  apply Array.ext'
  exact hl
end
end Go.Proofs.Ytljokmmgkecjbaa
