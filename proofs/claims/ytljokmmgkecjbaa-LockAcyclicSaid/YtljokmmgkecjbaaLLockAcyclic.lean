/- For every input the law LockAcyclic returns true, and each argument reads as before; no further condition. -/
import Derived.Test.YtljokmmgkecjbaaQj
import Derived.Test.YtljokmmgkecjbaaQh
import Derived.Test.YtljokmmgkecjbaaQb
import Derived.Test.YtljokmmgkecjbaaRows
import Derived.Test.YtljokmmgkecjbaaQf
set_option linter.unusedVariables false
set_option linter.unusedSimpArgs false
set_option maxRecDepth 100000
namespace Go.Proofs.Ytljokmmgkecjbaa
open Go Go.AM
/-! nobody waits in a ring: units without blockers, taken away again and again, leave nobody -/
theorem mem_blockers {held queue : List Lk} {u b : Int} : b ∈ blockersL held queue u ↔ edge held queue u b := by
  rw [blockersL, sortI, (List.mergeSort_perm _ _).mem_iff]; rfl
/-- one unit looked at -/
def stepA4 (blk : Int → List Int) (S : List Int) (u : Int) : List Int := if (blk u).any (fun b => S.contains b) = true then S else S.filter (· != u)
def passA4 (blk : Int → List Int) (all : List Int) (S : List Int) : List Int := all.foldl (stepA4 blk) S
def roundsA4 (blk : Int → List Int) (all : List Int) : Nat → List Int → List Int
  | 0, S => S
  | n + 1, S => passA4 blk all (roundsA4 blk all n S)
theorem stepA4_sub {blk : Int → List Int} {S : List Int} {u : Int} : (stepA4 blk S u).Sublist S := by
  unfold stepA4
  split
  · exact List.Sublist.refl _
  · exact List.filter_sublist
theorem passA4_sub {blk : Int → List Int} : ∀ {all S : List Int}, (passA4 blk all S).Sublist S
  | [], S => List.Sublist.refl _
  | u :: all, S => (passA4_sub (all := all) (S := stepA4 blk S u)).trans stepA4_sub
theorem passA4_fix {blk : Int → List Int} : ∀ {all S : List Int}, (passA4 blk all S).length = S.length → ∀ u ∈ all, stepA4 blk S u = S
  | [], S, _, u, hu => by cases hu
  | v :: all, S, h, u, hu => by
    have h1 : (passA4 blk all (stepA4 blk S v)).length = S.length := h
    have l1 := (passA4_sub (blk := blk) (all := all) (S := stepA4 blk S v)).length_le
    have l2 := (stepA4_sub (blk := blk) (S := S) (u := v)).length_le
    have e : stepA4 blk S v = S := stepA4_sub.eq_of_length (by omega)
    rcases List.mem_cons.1 hu with rfl | hu
    · exact e
    · rw [e] at h1
      exact passA4_fix h1 u hu
theorem passA4_less {held queue : List Lk} (hg : Good held queue) {all S : List Int} (hS : ∀ x ∈ S, x ∈ all) (hne : S ≠ []) : (passA4 (blockersL held queue) all S).length < S.length := by
  refine Nat.lt_of_le_of_ne passA4_sub.length_le fun he => ?_
  have hfix := passA4_fix he
  refine ring_of (E := Eg held queue) S.length S (Nat.le_refl _) ?_ (fun a ha => ?_) hg.ac'
  · cases S with
    | nil => exact absurd rfl hne
    | cons a _ => exact ⟨a, by simp⟩
  · have h1 := hfix a (hS a ha)
    unfold stepA4 at h1
    split at h1
    · rename_i hany
      obtain ⟨b, hb, hc⟩ := List.any_eq_true.1 hany
      exact ⟨b, by simpa using hc, eg_of_edge (mem_blockers.1 hb)⟩
    · have : a ∈ S.filter (· != a) := by rw [h1]; exact ha
      simp at this
theorem roundsA4_sub {blk : Int → List Int} {all : List Int} : ∀ {n : Nat} {S : List Int}, (roundsA4 blk all n S).Sublist S
  | 0, _ => List.Sublist.refl _
  | n + 1, _ => passA4_sub.trans (roundsA4_sub (n := n))
theorem roundsA4_len {held queue : List Lk} (hg : Good held queue) {all S : List Int} (hS : ∀ x ∈ S, x ∈ all) : ∀ n, (roundsA4 (blockersL held queue) all n S).length ≤ S.length - n
  | 0 => Nat.le_refl _
  | n + 1 => by
    have ih := roundsA4_len hg hS n
    show (passA4 (blockersL held queue) all (roundsA4 (blockersL held queue) all n S)).length ≤ _
    by_cases hne : roundsA4 (blockersL held queue) all n S = []
    · rw [hne]
      have := (passA4_sub (blk := blockersL held queue) (all := all) (S := [])).length_le
      rw [List.length_nil] at this
      omega
    · have := passA4_less hg (fun x hx => hS x (roundsA4_sub.subset hx)) hne
      omega
theorem acyclic_law {held queue : List Lk} (hg : Good held queue) (all : List Int) : roundsA4 (blockersL held queue) all all.length all = [] := by
  have := roundsA4_len hg (all := all) (S := all) (fun _ h => h) all.length
  exact List.eq_nil_of_length_eq_zero (by omega)
/-- a unit waits exactly if somebody blocks it -/
theorem waits_blocked {held queue : List Lk} (hg : Good held queue) (u : Int) : queue.any (ofB u) = decide ((blockersL held queue u).length > 0) := by
  cases h : queue.any (ofB u) with
  | true =>
    obtain ⟨p, l, t, hq, hu⟩ := any_split h
    obtain ⟨k, hk⟩ := hg.bl p l t hq
    have : k ∈ blockersL held queue u := mem_blockers.2 (edge_of_eg hg.un' ⟨p, l, t, hq, hu, hk⟩)
    symm
    rw [decide_eq_true_iff]
    exact List.length_pos_of_mem this
  | false =>
    have : blockersL held queue u = [] := by
      simp [blockersL, waitM, h, sortI, keysM]
    rw [this]; rfl
end Go.Proofs.Ytljokmmgkecjbaa

namespace Go.Proofs.Ytljokmmgkecjbaa
open Go Go.AM
/-- maps from numbers to rows, the rows told by their values -/
noncomputable abbrev ilM : MKind where
  K := Int
  V := Value
  kt := 3
  vt := 55
  desc := .int .i64
  ek k := .int .i64 k
  ekA k := .int false .i64 k
  decK := fun | .int _ .i64 k => some k | _ => none
  ev b := b
  evA b := (false, [.val b])
  decV := fun | .sc (.val b) => some b | _ => none
  zero := .slice none 0 0
  eqb a b := a == b
  eqb_ok := fun a b => by simp
  inj := fun a b h => by cases h; rfl
  isk := fun k => rfl
  repK := fun env k => rfl
  repV := fun env x => rfl
  decK_ok := fun x k h env v hr => by
    split at h
    · cases h; exact hr
    · cases h
  decV_ok := fun x y h env v hr => by
    split at h
    · cases h; exact hr
    · cases h
noncomputable def maps10 (T : TypeId) : Option MKind := match T with
  | 118 => some ibM
  | 63 => some ilM
  | _ => none
theorem maps10_ok : ∀ T M, maps10 T = some M → MapFacts Try.prog T M := by
  intro T M h
  unfold maps10 at h
  split at h
  · cases h
    exact ⟨Try.underlying118, Try.underlying3, ⟨_, rfl, rfl⟩⟩
  · cases h
    exact ⟨Try.underlying63, Try.underlying3, ⟨_, rfl, rfl⟩⟩
  · cases h
noncomputable def E10b : Eng := mkEngX Try.prog kinds46b eqT qt46e sp46g noQ maps10 (fun _ _ _ => none) (fun _ => false)
theorem E10b_ok : E10b.Ok := mkEngX_ok mixedT qt46eok sp46g_ok (fun _ _ _ _ _ h => by cases h) eqT_ok maps10_ok (fun _ _ _ _ h => by cases h)
noncomputable def E10 : Eng := mkEngH E10b (rawHk 63 55 3) (rawHook E10b int55)
theorem E10_ok : E10.Ok := mkEngH_ok E10b_ok (rawHook_ok maps10_ok)
/-! the map's entries -/
abbrev IV := List (Int × Value)
def keysV (l : IV) : List Int := l.map (·.1)
theorem lookV_cons (a : Int) (b : Value) (S : IV) (n : Int) : lookL ilM ((a, b) :: S) n = if a = n then some b else lookL ilM S n := by
  by_cases h : a = n
  · subst h; simp [lookL]
  · have : (a == n) = false := by simpa using h
    simp [lookL, h, this]
theorem putV_cons (a : Int) (b : Value) (S : IV) (n : Int) (v : Value) : putL ilM ((a, b) :: S) n v = if a = n then (a, v) :: S else (a, b) :: putL ilM S n v := by
  by_cases h : a = n
  · subst h; simp [putL]
  · have : (a == n) = false := by simpa using h
    simp [putL, h, this]
theorem delV_cons (a : Int) (b : Value) (S : IV) (n : Int) : delL ilM ((a, b) :: S) n = if a = n then S else (a, b) :: delL ilM S n := by
  by_cases h : a = n
  · subst h; simp [delL]
  · have : (a == n) = false := by simpa using h
    simp [delL, h, this]
theorem lookV_mem {l : IV} {n : Int} {v : Value} (h : lookL ilM l n = some v) : (n, v) ∈ l := by
  induction l with
  | nil => cases h
  | cons p l ih =>
    obtain ⟨a, b⟩ := p
    rw [lookV_cons] at h
    split at h
    · rename_i e
      cases h; subst e; simp
    · exact List.mem_cons_of_mem _ (ih h)
theorem lookV_some (l : IV) (n : Int) : (lookL ilM l n).isSome = (keysV l).contains n := by
  induction l with
  | nil => rfl
  | cons p l ih =>
    obtain ⟨a, b⟩ := p
    rw [lookV_cons]
    by_cases h : a = n
    · subst h; simp [keysV]
    · rw [if_neg h, ih]
      simp [keysV, Ne.symm h]
theorem putV_new {l : IV} {n : Int} {v : Value} (h : n ∉ keysV l) : putL ilM l n v = l ++ [(n, v)] := by
  induction l with
  | nil => rfl
  | cons p l ih =>
    obtain ⟨a, b⟩ := p
    have h' : n ≠ a ∧ n ∉ keysV l := by simpa [keysV] using h
    rw [putV_cons, if_neg (Ne.symm h'.1), ih h'.2]; rfl
theorem lookV_new {l : IV} {n : Int} {v : Value} (h : n ∉ keysV l) : lookL ilM (l ++ [(n, v)]) n = some v := by
  induction l with
  | nil => rw [List.nil_append, lookV_cons, if_pos rfl]
  | cons p l ih =>
    obtain ⟨a, b⟩ := p
    have h' : n ≠ a ∧ n ∉ keysV l := by simpa [keysV] using h
    rw [List.cons_append, lookV_cons, if_neg (Ne.symm h'.1), ih h'.2]
theorem delV_sub {l : IV} {n : Int} : (delL ilM l n).Sublist l := by
  induction l with
  | nil => exact List.Sublist.refl _
  | cons p l ih =>
    obtain ⟨a, b⟩ := p
    rw [delV_cons]
    split
    · exact List.sublist_cons_self _ _
    · exact ih.cons_cons _
theorem delV_keys {l : IV} {n : Int} (h : (keysV l).Nodup) : keysV (delL ilM l n) = (keysV l).filter (· != n) := by
  induction l with
  | nil => rfl
  | cons p l ih =>
    obtain ⟨a, b⟩ := p
    have h' : a ∉ keysV l ∧ (keysV l).Nodup := by simpa [keysV] using h
    rw [delV_cons]
    by_cases e : a = n
    · subst e
      rw [if_pos rfl]
      show keysV l = (a :: keysV l).filter (· != a)
      rw [List.filter_cons, if_neg (by simp)]
      symm
      rw [List.filter_eq_self]
      intro x hx
      simp only [bne_iff_ne, ne_eq]
      rintro rfl
      exact h'.1 hx
    · rw [if_neg e]
      show a :: keysV (delL ilM l n) = (a :: keysV l).filter (· != n)
      rw [List.filter_cons, if_pos (by simpa using e), ih h'.2]
theorem passA4_snoc {blk : Int → List Int} {all S : List Int} {j : Nat} (hj : j < all.length) : passA4 blk (all.take (j + 1)) S = stepA4 blk (passA4 blk (all.take j) S) (all.getD j 0) := by
  unfold passA4
  rw [List.take_succ_eq_append_getElem hj, List.foldl_append, List.getD_eq_getElem?_getD, List.getElem?_eq_getElem hj]; rfl
theorem wf_okU {held queue : List Lk} (h : WF held queue) : okU (held ++ queue) := by
  intro x hx
  rcases List.mem_append.1 hx with hx | hx
  · have := valid_parts (h.vh x hx)
    omega
  · have := valid_parts (h.vq x hx)
    omega
theorem viaSeqS {E : Eng} {a b : Code} {ts : List AVal} {m : List AM.Item} {Q : Exit → List AVal → List AM.Item → Prop} {S : Type} (J : S → Prop) (L : S → List AVal) (M : S → List AM.Item)
    (key : ∀ K : Exit → List AVal → List AM.Item → Prop, (∀ s, J s → K .normal (L s) (M s)) → awp E a ts m K) (h : ∀ s, J s → awp E b (L s) (M s) Q) : awp E (.seq a b) ts m Q := key _ h
structure AcT where
  j : Nat
  l : IV
structure AcS where
  j : Nat
  l : IV
  rows : List (Value × List Int)
set_option maxHeartbeats 4000000 in
theorem acyclic_base (acts : List Ac) : TripleF Try.prog 10 [.sc (.h 0)] [.ro actK acts] (fun r _ => r = .sc (.bool true) ∧ r.below 0 = true) := by
  refine base_of_awp (R := fun r => r = .sc (.bool true)) E10_ok Try.func10 rfl (by kernel_rfl) ?_
  conv => whnf
  refine Cast.mk _ _ ?_
  conv => whnf
  refine Br.mk (fun c1 => ?_) (fun c1 => ?_)
  · conv => whnf
  have c1 : fewA acts 50 = true := by
    have c1 : (!fewA acts 50) = false := c1
    simpa using c1
  have hl50 := few_len c1
  conv => whnf
  refine Cast.mk _ _ (Need.mk (by omega) ?_)
  conv => whnf
  have hall := set_sorted (actU acts)
  have hall1 := set_len (actU acts)
  generalize setL (actU acts) = all at hall hall1 ⊢
  have hlen2 : all.length ≤ 9223372036854775807 := by
    have : (actU acts).length = acts.length := by simp [actU]
    omega
  refine Know.mk fun hlen => ?_
  have hlen : acts.length ≤ 9223372036854775807 := hlen
  conv => whnf
  refine LoopF.inv Nat (fun k => k ≤ acts.length) (fun k => [(30, .sc (.int false .i64 (k : Int)))]) (fun k => acts.length - k)
    (fun k => [.ro actK acts, .box 112 [.h 5, .h 6], .gone, .gone, .slc int55 all, .slc lockK (playL (acts.take k)).1, .slc lockK (playL (acts.take k)).2]) (fun _ => Nat.le_add_right 5 2) 0 [2, 3]
    (Nat.zero_le _) ⟨⟨⟨rfl, rfl⟩, trivial⟩, ⟨rfl, ⟨rfl, rfl⟩, trivial, trivial, rfl, rfl, rfl, trivial⟩, rfl⟩ ?_
  rintro k h1
  have hpl := play_len (acts.take k)
  rw [List.length_take] at hpl
  have hps : k < acts.length → playL (acts.take (k + 1)) = _ := fun hk => play_snoc hk
  have hwf := play_wf (acts.take k)
  have hgd := play_good (acts.take k)
  generalize hS : playL (acts.take k) = S at hpl hps hwf hgd
  obtain ⟨H, Q⟩ := S
  have hpl : H.length + Q.length ≤ min k acts.length := hpl
  have hwf : WF H Q := hwf
  have hgd : Good H Q := hgd
  conv => whnf
  refine Br.mk (fun c2 => ?_) (fun c2 => ?_)
  · have hk := ltN c2
    have hps := hps hk
    change awp E10 (.seq (.region 9 _ _) _) _ _ _
    apply viaSeq
    · intro K hK
      conv => whnf
      refine Need.mk (show 0 ≤ (k : Int) ∧ (k : Int) < (acts.length : Nat) from ⟨by omega, by omega⟩) ?_
      conv => whnf
      exact hK
    generalize hA : nth acts ((k : Int)).toNat actK.d = A
    have hA : nth acts k ac0 = A := hA
    rw [← nth_eq, hA] at hps
    obtain ⟨ak, au, ai, alo, ahi, ae, ax⟩ := A
    have hwf := do_wf (a := ⟨ak, au, ai, alo, ahi, ae, ax⟩) hwf
    have hgd := do_good (a := ⟨ak, au, ai, alo, ahi, ae, ax⟩) hgd
    have hdl := do_len H Q ⟨ak, au, ai, alo, ahi, ae, ax⟩
    apply viaSeq
    · intro K hK
      conv => whnf
      refine Need.mk (show 5 ≠ 6 by decide) (Cast.mk _ _ (Cast.mk _ _ (Need.mk (by omega) ?_)))
      conv => whnf
      exact hK
    generalize hD : doL H Q ⟨ak, au, ai, alo, ahi, ae, ax⟩ = D at hwf hgd hdl hps ⊢
    obtain ⟨De, DH, DQ, Do⟩ := D
    have hwf : WF DH DQ := hwf
    have hgd : Good DH DQ := hgd
    have hdl : DH.length + DQ.length ≤ H.length + Q.length + 1 := hdl
    have hps : playL (acts.take (k + 1)) = (DH, DQ) := hps
    apply viaSeq
    · intro K hK
      conv => whnf
      exact hK
    apply viaSeqS (S := AcS) (J := fun s => keysV s.l = all ∧ ∀ p ∈ s.l, (p.2, blockersL DH DQ p.1) ∈ s.rows)
    · intro K hK
      apply viaSeq
      · intro K3 hK3
        conv => whnf
        refine Know.mk fun _ => ?_
        conv => whnf
        exact hK3
      conv => whnf
      refine LoopF.inv AcS (fun s => s.j ≤ all.length ∧ keysV s.l = all.take s.j ∧ ∀ p ∈ s.l, (p.2, blockersL DH DQ p.1) ∈ s.rows) (fun s => [(40, .sc (.int false .i64 (s.j : Int)))]) (fun s => all.length - s.j)
        (fun s => [.ro actK acts, .box 112 [.h 8, .h 9], .gone, .gone, .slc int55 all, .gone, .gone, .gone, .slc lockK DH, .slc lockK DQ, .gone, .mp true ilM s.l, .obj (rowsO int55 s.rows)]) (fun _ => Nat.le_refl _) ⟨0, [], []⟩ []
        ⟨Nat.zero_le _, rfl, fun p hp => absurd hp (List.not_mem_nil)⟩ ⟨⟨⟨rfl, rfl⟩, trivial⟩, ⟨rfl, ⟨rfl, rfl⟩, trivial, trivial, rfl, trivial, trivial, trivial, rfl, rfl, trivial, rfl, rfl, trivial⟩, rfl⟩ ?_
      rintro s ⟨h2, hk1, hk2⟩
      conv => whnf
      refine Br.mk (fun c3 => ?_) (fun c3 => ?_)
      · have hj : s.j < all.length := ltN c3
        change awp E10 (.seq (.region 14 _ _) _) _ _ _
        apply viaSeq
        · intro K3 hK3
          conv => whnf
          refine Need.mk (show 0 ≤ (s.j : Int) ∧ (s.j : Int) < (all.length : Nat) from ⟨by omega, by omega⟩) ?_
          conv => whnf
          exact hK3
        have hv : nth all ((s.j : Int)).toNat int55.d = all.getD s.j 0 := nth_eq _ _ _
        generalize nth all ((s.j : Int)).toNat int55.d = v at hv ⊢
        have hnew : v ∉ keysV s.l := by
          rw [hk1, hv, List.getD_eq_getElem?_getD, List.getElem?_eq_getElem hj]
          intro hm
          obtain ⟨i, hi, he⟩ := List.mem_take_iff_getElem.1 hm
          have := List.pairwise_iff_getElem.1 hall i s.j (by omega) hj (by omega)
          simp at he
          omega
        apply viaSeqS (S := Value) (J := fun _ => True)
        · intro K3 hK3
          conv => whnf
          refine Need.mk (show 8 ≠ 9 by decide) (Cast.mk _ _ (Cast.mk _ _ (Need.mk ⟨by omega, by omega, wf_okU hwf⟩ ?_)))
          conv => whnf
          refine RawUpd.mk 13 12 int55 (blockersL DH DQ v) s.rows rfl rfl rfl (by decide) fun rv => ?_
          conv => whnf
          refine Need.mk rfl ?_
          conv => whnf
          exact hK3 rv trivial
        intro rv _
        apply viaSeq
        · intro K3 hK3
          conv => whnf
          refine Need.mk (show 8 ≠ 9 by decide) (Cast.mk _ _ (Cast.mk _ _ ?_))
          conv => whnf
          exact hK3
        apply viaSeq
        · intro K3 hK3
          conv => whnf
          refine Need.mk rfl ?_
          conv => whnf
          refine RawLen.row 12 int55 ((rv, blockersL DH DQ v) :: s.rows) rv (blockersL DH DQ v) 3 Try.underlying55 ?_ rfl (by simp) ?_
          · show AVal.sc (.val ((lookL ilM (putL ilM s.l v rv) v).getD _)) = _
            rw [putV_new hnew, lookV_new hnew]; rfl
          conv => whnf
          exact hK3
        have hwb := waits_blocked hgd v
        refine condBr rfl (fun c4 => ?_) (fun c4 => ?_)
        · have c4 : (DQ.any (ofB v) != decide (((blockersL DH DQ v).length : Int) > 0)) = true := c4
          rw [hwb] at c4
          simp at c4
        conv => whnf
        refine ⟨⟨s.j + 1, putL ilM s.l v rv, (rv, blockersL DH DQ v) :: s.rows⟩, [], ⟨hj, ?_, ?_⟩, Nat.sub_lt_sub_left hj (Nat.lt_succ_self _), ⟨⟨⟨rfl, wrap_succ hj hlen2⟩, trivial⟩, ⟨rfl, ⟨rfl, rfl⟩, trivial, trivial, rfl, trivial, trivial, trivial, rfl, rfl, trivial, rfl, rfl, trivial⟩, rfl⟩, rfl⟩
        · show keysV (putL ilM s.l v rv) = all.take (s.j + 1)
          rw [putV_new hnew]
          show (s.l ++ [(v, rv)]).map (·.1) = _
          rw [List.map_append, show s.l.map (·.1) = keysV s.l from rfl, hk1, List.take_succ_eq_append_getElem hj, hv, List.getD_eq_getElem?_getD, List.getElem?_eq_getElem hj]; rfl
        · show ∀ p ∈ putL ilM s.l v rv, _ ∈ (rv, blockersL DH DQ v) :: s.rows
          rw [putV_new hnew]
          intro p hp
          rcases List.mem_append.1 hp with hp | hp
          · exact List.mem_cons_of_mem _ (hk2 p hp)
          · simp at hp; subst hp; simp
      · have hj : all.length ≤ s.j := geN c3
        rw [List.take_of_length_le hj] at hk1
        conv => whnf
        exact hK s ⟨hk1, hk2⟩
    rintro ⟨j0, l, rows⟩ ⟨hk1, hk2⟩
    have hk1 : keysV l = all := hk1
    have hk2 : ∀ p ∈ l, (p.2, blockersL DH DQ p.1) ∈ rows := hk2
    have hal := acyclic_law hgd all
    have hnd : ∀ l : IV, (keysV l).Sublist all → (keysV l).Nodup := fun l h => (hall.imp (fun h => Int.ne_of_lt h)).sublist h
    have hbl : ∀ v, (blockersL DH DQ v).length ≤ DH.length + DQ.length := fun v => by
      rw [blockersL, sortI, List.length_mergeSort, keysM, List.length_map]; exact wait_len _ _ _
    generalize hblk : blockersL DH DQ = blk at hk2 hal hbl
    have hk0 : keysV l = roundsA4 blk all 0 all := hk1
    apply viaSeqS (S := AcT) (J := fun s => s.l = [])
    · intro K hK
      apply viaSeq
      · intro K3 hK3
        conv => whnf
        refine Know.mk fun _ => ?_
        conv => whnf
        exact hK3
      conv => whnf
      refine LoopF.inv AcT (fun s => s.j ≤ all.length ∧ keysV s.l = roundsA4 blk all s.j all ∧ ∀ p ∈ s.l, (p.2, blk p.1) ∈ rows) (fun s => [(65, .sc (.int false .i64 (s.j : Int)))]) (fun s => all.length - s.j)
        (fun s => [.ro actK acts, .box 112 [.h 8, .h 9], .gone, .gone, .slc int55 all, .gone, .gone, .gone, .slc lockK DH, .slc lockK DQ, .gone, .mp true ilM s.l, .obj (rowsO int55 rows)]) (fun _ => Nat.le_refl _) ⟨0, l⟩ []
        ⟨Nat.zero_le _, hk0, hk2⟩ ⟨⟨⟨rfl, rfl⟩, trivial⟩, ⟨rfl, ⟨rfl, rfl⟩, trivial, trivial, rfl, trivial, trivial, trivial, rfl, rfl, trivial, rfl, rfl, trivial⟩, rfl⟩ ?_
      rintro s1 ⟨h3, hk1, hk2⟩
      have hrs : (roundsA4 blk all s1.j all).Sublist all := roundsA4_sub
      conv => whnf
      refine Br.mk (fun c4 => ?_) (fun c4 => ?_)
      · have hi : s1.j < all.length := ltN c4
        change awp E10 (.seq (.region 22 _ _) _) _ _ _
        apply viaSeq
        · intro K3 hK3
          conv => whnf
          refine Know.mk fun _ => ?_
          conv => whnf
          exact hK3
        conv => whnf
        refine LoopF.inv AcT (fun s => s.j ≤ all.length ∧ keysV s.l = passA4 blk (all.take s.j) (roundsA4 blk all s1.j all) ∧ ∀ p ∈ s.l, (p.2, blk p.1) ∈ rows) (fun s => [(69, .sc (.int false .i64 (s.j : Int)))]) (fun s => all.length - s.j)
          (fun s => [.ro actK acts, .box 112 [.h 8, .h 9], .gone, .gone, .slc int55 all, .gone, .gone, .gone, .slc lockK DH, .slc lockK DQ, .gone, .mp true ilM s.l, .obj (rowsO int55 rows)]) (fun _ => Nat.le_refl _) ⟨0, s1.l⟩ []
          ⟨Nat.zero_le _, hk1, hk2⟩ ⟨⟨⟨rfl, rfl⟩, trivial⟩, ⟨rfl, ⟨rfl, rfl⟩, trivial, trivial, rfl, trivial, trivial, trivial, rfl, rfl, trivial, rfl, rfl, trivial⟩, rfl⟩ ?_
        rintro ⟨j, l2⟩ ⟨h4, hk1, hk2⟩
        have h4 : j ≤ all.length := h4
        have hk1 : keysV l2 = passA4 blk (all.take j) (roundsA4 blk all s1.j all) := hk1
        have hk2 : ∀ p ∈ l2, (p.2, blk p.1) ∈ rows := hk2
        have hsn : j < all.length → passA4 blk (all.take (j + 1)) (roundsA4 blk all s1.j all) = stepA4 blk (passA4 blk (all.take j) (roundsA4 blk all s1.j all)) (all.getD j 0) := passA4_snoc
        have hwhole : all.length ≤ j → passA4 blk (all.take j) (roundsA4 blk all s1.j all) = roundsA4 blk all (s1.j + 1) all := fun h => by rw [List.take_of_length_le h]; rfl
        have hps2 : (passA4 blk (all.take j) (roundsA4 blk all s1.j all)).Sublist all := passA4_sub.trans hrs
        rw [← hk1] at hps2 hsn hwhole
        have hnod := hnd l2 hps2
        conv => whnf
        refine Br.mk (fun c5 => ?_) (fun c5 => ?_)
        · have hj : j < all.length := ltN c5
          have hsn := hsn hj
          change awp E10 (.seq (.region 24 _ _) _) _ _ _
          apply viaSeq
          · intro K3 hK3
            conv => whnf
            refine Need.mk (show 0 ≤ (j : Int) ∧ (j : Int) < (all.length : Nat) from ⟨by omega, by omega⟩) ?_
            conv => whnf
            exact hK3
          have hv : nth all ((j : Int)).toNat int55.d = all.getD j 0 := nth_eq _ _ _
          generalize nth all ((j : Int)).toNat int55.d = v at hv ⊢
          rw [← hv] at hsn
          apply viaSeq
          · intro K3 hK3
            conv => whnf
            exact hK3
          cases hlk : lookL ilM l2 v with
          | none =>
            have hno : v ∉ keysV l2 := by
              have := lookV_some l2 v
              rw [hlk] at this
              simpa using this.symm
            apply viaSeq
            · intro K3 hK3
              apply viaSeq
              · intro K4 hK4
                conv => whnf
                refine Need.mk rfl ?_
                conv => whnf
                refine RawLen.nil 3 Try.underlying55 ?_ ?_
                · show AVal.sc (.val ((lookL ilM l2 v).getD _)) = _
                  rw [hlk]; rfl
                conv => whnf
                exact hK4
              conv => whnf
              refine LoopF.unroll 1 ?_
              conv => whnf
              refine Br.mk (fun c => absurd (show decide ((0 : Int) < 0) = true from c) (by decide)) (fun _ => ?_)
              conv => whnf
              exact hK3
            apply viaSeq
            · intro K3 hK3
              conv => whnf
              exact hK3
            conv => whnf
            refine Need.mk rfl ?_
            conv => whnf
            refine ⟨⟨j + 1, delL ilM l2 v⟩, [], ⟨hj, ?_, ?_⟩, Nat.sub_lt_sub_left hj (Nat.lt_succ_self _), ⟨⟨⟨rfl, wrap_succ hj hlen2⟩, trivial⟩, ⟨rfl, ⟨rfl, rfl⟩, trivial, trivial, rfl, trivial, trivial, trivial, rfl, rfl, trivial, rfl, rfl, trivial⟩, rfl⟩, rfl⟩
            · show keysV (delL ilM l2 v) = _
              rw [hsn, delV_keys hnod]
              unfold stepA4
              split
              · rw [List.filter_eq_self]
                intro x hx
                simp only [bne_iff_ne, ne_eq]
                rintro rfl
                exact hno hx
              · rfl
            · intro p hp
              exact hk2 p (delV_sub.subset hp)
          | some rv =>
            have hrv : (rv, blk v) ∈ rows := hk2 (v, rv) (lookV_mem hlk)
            generalize hxs : blk v = xs at hrv
            have hxl : xs.length ≤ 9223372036854775807 := by
              have := hbl v
              rw [hxs] at this
              omega
            apply viaSeqS (S := Bool) (J := fun b => b = !(xs.any (fun x => (lookL ilM l2 x).isSome)))
            · intro K3 hK3
              apply viaSeq
              · intro K4 hK4
                conv => whnf
                refine Need.mk rfl ?_
                conv => whnf
                refine RawLen.row 12 int55 rows rv xs 3 Try.underlying55 ?_ rfl hrv ?_
                · show AVal.sc (.val ((lookL ilM l2 v).getD _)) = _
                  rw [hlk]; rfl
                conv => whnf
                exact hK4
              conv => whnf
              refine LoopF.inv Nat (fun n => n ≤ xs.length) (fun n => [(77, .sc (.int false .i64 (n : Int))), (14, .sc (.bool (!((xs.take n).any (fun x => (lookL ilM l2 x).isSome)))))]) (fun n => xs.length - n)
                (fun n => [.ro actK acts, .box 112 [.h 8, .h 9], .gone, .gone, .slc int55 all, .gone, .gone, .gone, .slc lockK DH, .slc lockK DQ, .gone, .mp true ilM l2, .obj (rowsO int55 rows)]) (fun _ => Nat.le_refl _) 0 []
                (Nat.zero_le _) ⟨⟨⟨rfl, rfl⟩, ⟨rfl, rfl⟩, trivial⟩, ⟨rfl, ⟨rfl, rfl⟩, trivial, trivial, rfl, trivial, trivial, trivial, rfl, rfl, trivial, rfl, rfl, trivial⟩, rfl⟩ ?_
              rintro n h5
              have hsx := fun h : n < xs.length => anyI_snoc (p := fun x => (lookL ilM l2 x).isSome) h
              conv => whnf
              refine Br.mk (fun c6 => ?_) (fun c6 => ?_)
              · have hn := ltN c6
                have hsx := hsx hn
                change awp E10 (.seq (.region 28 _ _) _) _ _ _
                apply viaSeq
                · intro K4 hK4
                  conv => whnf
                  refine RawIdx.row 12 int55 rows rv xs 3 _ false .i64 (n : Int) Try.underlying55 rfl rfl ?_ rfl rfl hrv ⟨by omega, by omega⟩ ?_
                  · show AVal.sc (.val ((lookL ilM l2 v).getD _)) = _
                    rw [hlk]; rfl
                  conv => whnf
                  refine RawLoad.row 12 int55 rows rv xs ((n : Int)).toNat (.sc (.int false .i64 (nth xs ((n : Int)).toNat 0))) rfl rfl hrv (by omega) rfl ?_
                  conv => whnf
                  exact hK4
                apply viaSeq
                · intro K4 hK4
                  conv => whnf
                  refine Need.mk rfl ?_
                  conv => whnf
                  exact hK4
                apply viaSeq
                · intro K4 hK4
                  conv => whnf
                  exact hK4
                refine condBr rfl (fun c7 => ?_) (fun c7 => ?_)
                · have c7 : (lookL ilM l2 (nth xs n 0)).isSome = true := c7
                  rw [nth_eq] at c7
                  conv => whnf
                  refine ⟨n + 1, [], hn, Nat.sub_lt_sub_left hn (Nat.lt_succ_self _), ⟨⟨⟨rfl, wrap_succ hn hxl⟩, ⟨rfl, ?_⟩, trivial⟩, ⟨rfl, ⟨rfl, rfl⟩, trivial, trivial, rfl, trivial, trivial, trivial, rfl, rfl, trivial, rfl, rfl, trivial⟩, rfl⟩, rfl⟩
                  show AVal.sc (.bool false) = .sc (.bool (!((xs.take (n + 1)).any (fun x => (lookL ilM l2 x).isSome))))
                  rw [hsx, c7, Bool.or_true]; rfl
                · have c7 : (lookL ilM l2 (nth xs n 0)).isSome = false := c7
                  rw [nth_eq] at c7
                  conv => whnf
                  refine ⟨n + 1, [], hn, Nat.sub_lt_sub_left hn (Nat.lt_succ_self _), ⟨⟨⟨rfl, wrap_succ hn hxl⟩, ⟨rfl, ?_⟩, trivial⟩, ⟨rfl, ⟨rfl, rfl⟩, trivial, trivial, rfl, trivial, trivial, trivial, rfl, rfl, trivial, rfl, rfl, trivial⟩, rfl⟩, rfl⟩
                  show AVal.sc (.bool (!((xs.take n).any (fun x => (lookL ilM l2 x).isSome)))) = .sc (.bool (!((xs.take (n + 1)).any (fun x => (lookL ilM l2 x).isSome))))
                  rw [hsx, c7, Bool.or_false]
              · have hn := geN c6
                have hall4 : (!((xs.take n).any (fun x => (lookL ilM l2 x).isSome))) = !(xs.any (fun x => (lookL ilM l2 x).isSome)) := by rw [List.take_of_length_le hn]
                have hne : n = xs.length := by omega
                subst hne
                generalize (!((xs.take xs.length).any (fun x => (lookL ilM l2 x).isSome))) = fr at hall4 ⊢
                conv => whnf
                exact hK3 fr hall4
            intro fr hfr
            have hfr : fr = !(xs.any (fun x => (lookL ilM l2 x).isSome)) := hfr
            apply viaSeq
            · intro K3 hK3
              conv => whnf
              exact hK3
            have hany : xs.any (fun x => (lookL ilM l2 x).isSome) = (blk v).any (fun b => (keysV l2).contains b) := by
              rw [hxs]; congr 1; funext x; exact lookV_some l2 x
            refine condBr rfl (fun c8 => ?_) (fun c8 => ?_)
            · have c8 : fr = true := c8
              have hfa : (blk v).any (fun b => (keysV l2).contains b) = false := by
                rw [← hany]
                rw [hfr] at c8
                simpa using c8
              conv => whnf
              refine Need.mk rfl ?_
              conv => whnf
              refine ⟨⟨j + 1, delL ilM l2 v⟩, [], ⟨hj, ?_, ?_⟩, Nat.sub_lt_sub_left hj (Nat.lt_succ_self _), ⟨⟨⟨rfl, wrap_succ hj hlen2⟩, trivial⟩, ⟨rfl, ⟨rfl, rfl⟩, trivial, trivial, rfl, trivial, trivial, trivial, rfl, rfl, trivial, rfl, rfl, trivial⟩, rfl⟩, rfl⟩
              · show keysV (delL ilM l2 v) = _
                rw [hsn, delV_keys hnod]
                unfold stepA4
                rw [hfa]; rfl
              · intro p hp
                exact hk2 p (delV_sub.subset hp)
            · have c8 : fr = false := c8
              have hfa : (blk v).any (fun b => (keysV l2).contains b) = true := by
                rw [← hany]
                rw [hfr] at c8
                simpa using c8
              conv => whnf
              refine ⟨⟨j + 1, l2⟩, [], ⟨hj, ?_, ?_⟩, Nat.sub_lt_sub_left hj (Nat.lt_succ_self _), ⟨⟨⟨rfl, wrap_succ hj hlen2⟩, trivial⟩, ⟨rfl, ⟨rfl, rfl⟩, trivial, trivial, rfl, trivial, trivial, trivial, rfl, rfl, trivial, rfl, rfl, trivial⟩, rfl⟩, rfl⟩
              · show keysV l2 = _
                rw [hsn]
                unfold stepA4
                rw [hfa]; rfl
              · exact hk2
        · have hj : all.length ≤ j := geN c5
          conv => whnf
          refine ⟨⟨s1.j + 1, l2⟩, [], ⟨hi, hwhole hj, hk2⟩, Nat.sub_lt_sub_left hi (Nat.lt_succ_self _), ⟨⟨⟨rfl, wrap_succ hi hlen2⟩, trivial⟩, ⟨rfl, ⟨rfl, rfl⟩, trivial, trivial, rfl, trivial, trivial, trivial, rfl, rfl, trivial, rfl, rfl, trivial⟩, rfl⟩, rfl⟩
      · have hi : all.length ≤ s1.j := geN c4
        have hie : s1.j = all.length := by omega
        rw [hie, hal] at hk1
        have hl0 : s1.l = [] := by
          cases hl : s1.l with
          | nil => rfl
          | cons p t => rw [hl] at hk1; simp [keysV] at hk1
        conv => whnf
        exact hK s1 hl0
    rintro ⟨j1, l1⟩ hl1
    have hl1 : l1 = [] := hl1
    subst hl1
    conv => whnf
    refine Br.mk (fun c => absurd (show decide (((0 : Nat) : Int) > 0) = true from c) (by decide)) (fun _ => ?_)
    conv => whnf
    refine ⟨k + 1, [8, 9], by omega, by omega, ⟨⟨⟨rfl, wrap_succ hk hlen⟩, trivial⟩, ⟨rfl, ⟨rfl, rfl⟩, trivial, trivial, rfl, ?_, ?_, trivial⟩, rfl⟩, rfl⟩
    · show AM.Item.slc lockK DH = .slc lockK (playL (acts.take (k + 1))).1
      rw [hps]
    · show AM.Item.slc lockK DQ = .slc lockK (playL (acts.take (k + 1))).2
      rw [hps]
  · conv => whnf
end Go.Proofs.Ytljokmmgkecjbaa

namespace Go.Proofs.Ytljokmmgkecjbaa.lockAcyclic
open Go Go.AM Go.ChangeShapes Go.WideShapes Go.ChangeAt Go.RowKit
open Go.ChangeMaps (open_string shut_string)
theorem own : ownKnob Try.prog.godebug = none := by kernel_rfl
theorem laidOut : laidOutB Try.prog = true := by kernel_rfl
theorem lifted (os : Os) (started : os.Started) (H : Type) (enc : TypeId × Value → H) :
    ReturnsInHanded {} Try.checked os 10 .any (Rows.lockAcyclicSpec.pre6 enc Try.prog Try.f10 Rows.lockAcyclicRow.domain false) (Rows.lockAcyclicSpec.post enc Try.prog Try.f10 false true false false) := by
  refine returnsInHanded_of_change_sized (C := Try.checked) own started (by kernel_rfl) Try.func10
    (ChangeSpec.witness6 (enc := enc) (C := Try.checked) false ⟨#[], #[.slice none 0 0], []⟩ 8 (by kernel_rfl) (by kernel_rfl) (by kernel_rfl) (by kernel_rfl)) ?_
  intro W base args ds gs before hval0 hW hcnd hsz0 _
  have hval : ∀ (j : Nat) t v, Try.f10.params[j]? = some t → args[j]? = some v → Value.okWide Try.prog W .any base t v := hval0
  have hW' := hW
  obtain ⟨p, q, hA0, hV, rfl, hfz, hnd⟩ := hW
  have hA : DataW.TrodAll enc Try.prog W 0 (fun _ => true) true Try.f10.params.toList args.toList ds p := hA0
  rw [Try.params10] at hA hval
  obtain ⟨v0, vs0, d0, ds0, p0, q0, hargs, rfl, rfl, h0, r0⟩ := trodAll_cons hA
  obtain ⟨rfl, rfl, rfl⟩ := trodAll_nil r0
  obtain rfl : args = #[v0] := by cases args; simp_all
  obtain ⟨rfl, rfl⟩ := trodVars_none hV
  have k0 := h0
  have lt0 : ∀ x ∈ p0, x.block < W.heap.size := by obtain ⟨m, hm⟩ := k0; exact DataW.trod_lt m _ _ _ hm
  obtain ⟨a0, R0⟩ := open_acts (hval 0 51 v0 rfl rfl) h0
  have o0 : v0.oneCell' = true := by obtain ⟨A, c, rfl, _⟩ := R0; rfl
  clear hA0 hval0 hsz0
  have hm : ∀ (t : Nat) (it : AM.Item) (v : Value), ([.ro actK a0] : List AM.Item)[t]? = some it → ([v0] : List Value)[t]? = some v → ∃ (K : Kind) (xs : List K.T), it = .ro K xs ∧ RoRow W (fun _ => False) K xs v := by
    intro t it v h1 h2
    match t, h1, h2 with
    | 0, h1, h2 => cases h1; cases h2; exact ⟨actK, a0, rfl, R0⟩
    | n + 1, h1, h2 => simp at h1
  refine (calls_ro (env := [v0]) (acyclic_base a0) rfl W hm ⟨_, _, rfl, ⟨rfl, o0⟩, rfl⟩).mono fun e W' ⟨he, bel⟩ => ?_
  subst he
  exact ⟨_, rfl, _, _, _, [], _, [], hW', trodAll_mk1 (shut_bool Try.underlying4 _), (trodAll_cons_mk (Below.trod laidOut (by kernel_rfl) (of_decide_eq_true (by kernel_rfl)) k0 bel lt0) trodAll_mk0), rfl, bel.frame _, fun h => by cases h⟩
theorem over : Rows.lockAcyclicRow.holds Try.pinned (OpenSpec.ofChange Rows.lockAcyclicSpec) :=
  OpenClaim.holds_of_wide 10 Try.f10 rfl rfl rfl rfl rfl rfl rfl ⟨rfl, rfl, rfl, rfl, rfl⟩ rfl rfl rfl rfl rfl (by kernel_rfl) Try.func10 (by kernel_rfl)
    (of_decide_eq_true (by kernel_rfl)) (by unfold Func.isWrapper; first | (rw [if_pos (by decide +kernel)]; kernel_rfl) | (rw [if_neg (by decide +kernel)]; exact ⟨rfl, rfl⟩))
    (fun os started H enc _ => lifted os started H enc)
theorem proved : Rows.LockAcyclicSaid := over
end Go.Proofs.Ytljokmmgkecjbaa.lockAcyclic
namespace Go.Proofs.Ytljokmmgkecjbaa
theorem lockAcyclic_holds : Rows.LockAcyclicSaid := lockAcyclic.proved
#print axioms lockAcyclic_holds
end Go.Proofs.Ytljokmmgkecjbaa
