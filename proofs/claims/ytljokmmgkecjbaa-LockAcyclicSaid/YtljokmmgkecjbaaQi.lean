/- Lemmas for the claim's theorem. -/
import Derived.Test.YtljokmmgkecjbaaQh
set_option linter.unusedVariables false
set_option linter.unusedSimpArgs false
set_option maxRecDepth 100000
namespace Go.Proofs.Ytljokmmgkecjbaa
open Go Go.AM
theorem conf_comm (a b : Lk) : confL a b = confL b a := by
  unfold confL
  rw [meet_comm a.rg b.rg]
  have h1 : (a.u != b.u) = (b.u != a.u) := bne_comm
  have h2 : (a.i == b.i) = (b.i == a.i) := BEq.comm
  rw [h1, h2, Bool.or_comm a.x b.x]
theorem eqL_refl (a : Lk) : eqL a a = true := by
  simp [eqL, sEq]
/-- a new unit that holds nothing and does not wait -/
theorem order_law {held queue : List Lk} {x : Lk} (hv : validL x = true) (hh : held.filter (ofB x.u) = []) (hq : queue.any (ofB x.u) = false) :
    ((held ++ queue).all (fun y => !confL x y) = true → (reqL held queue x).1 = 0) ∧
    ((held ++ queue).all (fun y => !confL x y) = false → reqL held queue x = (15, held, queue ++ [x]) ∧ reqL held (queue ++ [x]) x = (15, held, queue ++ [x])) := by
  have hcov : held.any (covB x) = false := by
    rw [List.any_eq_false]
    intro y hy hc
    have hu : y.u = x.u := by
      simp only [covB, Bool.and_eq_true, beq_iff_eq] at hc
      exact hc.1.1.1
    have : y ∈ held.filter (ofB x.u) := List.mem_filter.2 ⟨hy, by simpa [ofB] using hu⟩
    rw [hh] at this; cases this
  have hreq : reqL held queue x = askL held queue x := req_new hv hcov hq
  have hconf : ∀ b, conflB (held.filter (ofB x.u)) b = false := fun b => by rw [hh]; rfl
  refine ⟨fun hf => ?_, fun hf => ?_⟩
  · rw [List.all_eq_true] at hf
    have he : (blkM held queue x).isEmpty = true := by
      cases hz : blkM held queue x with
      | nil => rfl
      | cons p t =>
        have : p.1 ∈ keysM (blkM held queue x) := by rw [hz]; simp [keysM]
        rw [keys_blk] at this
        rcases this with ⟨y, hy, hc, _⟩ | ⟨y, hy, hc, _⟩
        · have := hf y (by simp [hy])
          rw [conf_comm, hc] at this; cases this
        · have := hf y (by simp [hy])
          simp only [Bool.and_eq_true] at hc
          rw [conf_comm, hc.1] at this; cases this
    rw [hreq, ask_free he]
  · have hex : ∃ y ∈ held ++ queue, confL y x = true := by
      rw [List.all_eq_false] at hf
      obtain ⟨y, hy, hc⟩ := hf
      exact ⟨y, hy, by rw [conf_comm]; simpa using hc⟩
    obtain ⟨y, hy, hc⟩ := hex
    have hk : y.u ∈ keysM (blkM held queue x) := by
      rw [keys_blk]
      rcases List.mem_append.1 hy with h | h
      · exact .inl ⟨y, h, hc, rfl⟩
      · exact .inr ⟨y, h, by rw [hc, hconf]; rfl, rfl⟩
    have he : (blkM held queue x).isEmpty = false := by
      cases hz : blkM held queue x with
      | nil => rw [hz] at hk; cases hk
      | cons _ _ => rfl
    have hnu : x.u ∉ unitsL held queue := fun h => by
      obtain ⟨z, hz, hzu⟩ := List.mem_map.1 h
      rcases List.mem_append.1 hz with h | h
      · have : z ∈ held.filter (ofB x.u) := List.mem_filter.2 ⟨h, by simpa [ofB] using hzu⟩
        rw [hh] at this; cases this
      · rw [List.any_eq_false] at hq
        exact hq z h (by simpa [ofB] using hzu)
    have hr : reachB held queue (blkM held queue x) x.u = false := by
      refine reach_no ?_
      rintro ⟨k, hk, hre⟩
      have key : ∀ a b, Reach held queue a b → a ∈ unitsL held queue → b ∈ unitsL held queue := fun a b hre => by
        induction hre with
        | refl n => exact id
        | step h _ ih => exact fun _ => ih (edge_units h)
      exact hnu (key _ _ hre (blk_units (fun _ h => h) hk))
    have h1 : reqL held queue x = (15, held, queue ++ [x]) := by
      rw [hreq]; simp only [askL, he, hr]
    refine ⟨h1, ?_⟩
    have hany : (queue ++ [x]).any (ofB x.u) = true := by simp [ofB]
    have hidx : (queue ++ [x]).findIdx (ofB x.u) = queue.length := by
      rw [List.findIdx_append, if_neg]
      · simp [List.findIdx_cons, ofB]
      · rw [List.findIdx_lt_length]
        rintro ⟨z, hz, hb⟩
        rw [List.any_eq_false] at hq
        exact hq z hz hb
    have hget : (queue ++ [x]).getD queue.length lk0 = x := by
      rw [List.getD_eq_getElem?_getD, List.getElem?_append_right (Nat.le_refl _), Nat.sub_self]; rfl
    simp only [reqL, hv, hcov, hany, hidx, hget, eqL_refl]
set_option maxHeartbeats 2000000 in
theorem order_base (acts : List Ac) (x : Lk) (hb : (1 + acts.length) * 72 ≤ 140737488355328) : TripleF Try.prog 13 [.sc (.h 0), x.A] [.ro actK acts] (fun r _ => r = .sc (.bool true) ∧ r.below 0 = true) := by
  refine base_of_awp (R := fun r => r = .sc (.bool true)) E16_ok Try.func13 rfl (by kernel_rfl) ?_
  obtain ⟨xu, xi, xlo, xhi, xe, xx⟩ := x
  simp only [Lk.A]
  conv => whnf
  refine Cast.mk _ _ ?_
  conv => whnf
  refine Need.mk hb ?_
  conv => whnf
  refine Cast.mk _ _ ?_
  conv => whnf
  refine Br.mk (fun c1 => ?_) (fun c1 => ?_)
  · conv => whnf
  have c1 : fewA ([⟨0, ⟨xu, xi, xlo, xhi, xe, xx⟩⟩] ++ acts) 51 = true := by
    have c1 : (!fewA ([⟨0, ⟨xu, xi, xlo, xhi, xe, xx⟩⟩] ++ acts) 51) = false := c1
    simpa using c1
  have hl51 := few_len c1
  have hl50 : acts.length ≤ 50 := by simp at hl51; omega
  conv => whnf
  refine Cast.mk _ _ (Need.mk (by omega) ?_)
  conv => whnf
  have hpl := play_len acts
  refine Need.mk (by decide) (Cast.mk _ _ (Cast.mk _ _ (Need.mk ⟨by omega, by omega⟩ ?_)))
  generalize hH : (playL acts).1 = H at hpl ⊢
  generalize hQ : (playL acts).2 = Q at hpl ⊢
  conv => whnf
  refine Br.mk (fun c2 => ?_) (fun c2 => ?_)
  · conv => whnf
  have hv : validL ⟨1073741824, xi, xlo, xhi, xe, xx⟩ = true := by
    have c2 : (!validL ⟨1073741824, xi, xlo, xhi, xe, xx⟩) = false := c2
    simpa using c2
  conv => whnf
  refine Need.mk (by decide) (Cast.mk _ _ (Cast.mk _ _ (Need.mk (by omega) ?_)))
  conv => whnf
  refine Know.mk fun _ => ?_
  conv => whnf
  refine Br.mk (fun c3 => ?_) (fun c3 => ?_)
  · conv => whnf
  have hh : H.filter (ofB 1073741824) = [] := by
    have c3 : decide (((H.filter (ofB 1073741824)).length : Int) > 0) = false := c3
    simp at c3
    exact List.eq_nil_iff_forall_not_mem.2 fun y hy => by
      have := List.mem_filter.1 hy
      exact absurd this.2 (by simpa using c3 y this.1)
  conv => whnf
  refine Cast.mk _ _ ?_
  conv => whnf
  refine Need.mk (show (H.length + Q.length) * 64 ≤ 140737488355328 from by omega) ?_
  conv => whnf
  refine Know.mk fun hlen => ?_
  conv => whnf
  have hlen : (H ++ Q).length ≤ 9223372036854775807 := hlen
  refine LoopF.inv Nat (fun i => i ≤ (H ++ Q).length) (fun i => [(48, .sc (.int false .i64 (i : Int))), (8, .sc (.bool (((H ++ Q).take i).all fun y => !confL ⟨1073741824, xi, xlo, xhi, xe, xx⟩ y)))]) (fun i => (H ++ Q).length - i)
    (fun i => [.ro actK acts, .box 58 [.int true .i64 1073741824, .int false .i64 xi, .str xlo, .str xhi, .bool xe, .bool xx], .gone, .gone, .box 112 [.h 5, .h 6], .slc lockK H, .slc lockK Q, .gone, .slc lockK Q, .gone, .slc lockK (H ++ Q)]) (fun _ => Nat.le_refl _) 0 []
    (Nat.zero_le _) ⟨⟨⟨rfl, rfl⟩, ⟨rfl, rfl⟩, trivial⟩, ⟨rfl, ⟨rfl, rfl⟩, trivial, trivial, ⟨rfl, rfl⟩, rfl, rfl, trivial, rfl, trivial, rfl, trivial⟩, rfl⟩ ?_
  rintro i h1
  have hsn : i < (H ++ Q).length → ((H ++ Q).take (i + 1)).all (fun y => !confL ⟨1073741824, xi, xlo, xhi, xe, xx⟩ y) = _ := fun h => all_snoc (p := fun y => !confL ⟨1073741824, xi, xlo, xhi, xe, xx⟩ y) (d := lk0) h
  have hwhole : (H ++ Q).length ≤ i → ((H ++ Q).take i).all (fun y => !confL ⟨1073741824, xi, xlo, xhi, xe, xx⟩ y) = (H ++ Q).all (fun y => !confL ⟨1073741824, xi, xlo, xhi, xe, xx⟩ y) := fun h => by rw [List.take_of_length_le h]
  generalize ((H ++ Q).take i).all (fun y => !confL ⟨1073741824, xi, xlo, xhi, xe, xx⟩ y) = b at hsn hwhole
  conv => whnf
  refine Br.mk (fun c4 => ?_) (fun c4 => ?_)
  · have hi := ltN c4
    have hsn := hsn hi
    conv => whnf
    refine Need.mk (show 0 ≤ (i : Int) ∧ (i : Int) < ((H ++ Q).length : Nat) from ⟨by omega, by omega⟩) ?_
    conv => whnf
    refine Br.mk (fun c5 => ?_) (fun c5 => ?_)
    · have c5 : b = true := c5
      conv => whnf
      refine ⟨i + 1, [], by omega, by omega, ⟨⟨⟨rfl, wrap_succ hi hlen⟩, ⟨rfl, ?_⟩, trivial⟩, ⟨rfl, ⟨rfl, rfl⟩, trivial, trivial, ⟨rfl, rfl⟩, rfl, rfl, trivial, rfl, trivial, rfl, trivial⟩, rfl⟩, rfl⟩
      show AVal.sc (.bool (!confL ⟨1073741824, xi, xlo, xhi, xe, xx⟩ (nth (H ++ Q) i lk0))) = .sc (.bool (((H ++ Q).take (i + 1)).all (fun y => !confL ⟨1073741824, xi, xlo, xhi, xe, xx⟩ y)))
      rw [hsn, c5, Bool.true_and, nth_eq]
    · have c5 : b = false := c5
      conv => whnf
      refine ⟨i + 1, [], by omega, by omega, ⟨⟨⟨rfl, wrap_succ hi hlen⟩, ⟨rfl, ?_⟩, trivial⟩, ⟨rfl, ⟨rfl, rfl⟩, trivial, trivial, ⟨rfl, rfl⟩, rfl, rfl, trivial, rfl, trivial, rfl, trivial⟩, rfl⟩, rfl⟩
      show AVal.sc (.bool false) = .sc (.bool (((H ++ Q).take (i + 1)).all (fun y => !confL ⟨1073741824, xi, xlo, xhi, xe, xx⟩ y)))
      rw [hsn, c5, Bool.false_and]
  · have hi := geN c4
    have hwhole := hwhole hi
    conv => whnf
    refine Know.mk fun hlq => ?_
    have hlq : Q.length ≤ 9223372036854775807 := hlq
    conv => whnf
    refine LoopF.inv Nat (fun j => j ≤ Q.length ∧ (Q.take j).any (ofB 1073741824) = false) (fun j => [(62, .sc (.int false .i64 (j : Int)))]) (fun j => Q.length - j)
      (fun j => [.ro actK acts, .box 58 [.int true .i64 1073741824, .int false .i64 xi, .str xlo, .str xhi, .bool xe, .bool xx], .gone, .gone, .box 112 [.h 5, .h 6], .slc lockK H, .slc lockK Q, .gone, .slc lockK Q, .gone, .gone]) (fun _ => Nat.le_refl _) 0 []
      ⟨Nat.zero_le _, rfl⟩ ⟨⟨⟨rfl, rfl⟩, trivial⟩, ⟨rfl, ⟨rfl, rfl⟩, trivial, trivial, ⟨rfl, rfl⟩, rfl, rfl, trivial, rfl, trivial, trivial, trivial⟩, rfl⟩ ?_
    rintro j ⟨h2, h3⟩
    conv => whnf
    refine Br.mk (fun c5 => ?_) (fun c5 => ?_)
    · have hj := ltN c5
      have hsj := any_snoc (p := ofB 1073741824) hj
      conv => whnf
      refine Need.mk (show 0 ≤ (j : Int) ∧ (j : Int) < (Q.length : Nat) from ⟨by omega, by omega⟩) ?_
      conv => whnf
      refine Br.mk (fun c6 => ?_) (fun c6 => ?_)
      · conv => whnf
      · have c6 : ofB 1073741824 (nth Q j lk0) = false := c6
        rw [nth_eq] at c6
        conv => whnf
        refine ⟨j + 1, [], ⟨by omega, ?_⟩, by omega, ⟨⟨⟨rfl, wrap_succ hj hlq⟩, trivial⟩, ⟨rfl, ⟨rfl, rfl⟩, trivial, trivial, ⟨rfl, rfl⟩, rfl, rfl, trivial, rfl, trivial, trivial, trivial⟩, rfl⟩, rfl⟩
        rw [hsj, h3, c6]; rfl
    · have hj := geN c5
      rw [List.take_of_length_le hj] at h3
      obtain ⟨law1, law2⟩ := order_law hv hh h3
      rw [← hwhole] at law1 law2
      conv => whnf
      refine Need.mk (show 5 ≠ 6 by decide) (Cast.mk _ _ (Cast.mk _ _ (Need.mk (by omega) ?_)))
      conv => whnf
      refine Br.mk (fun c7 => ?_) (fun c7 => ?_)
      · have c7 : b = true := c7
        have l1 := law1 c7
        conv => whnf
        refine Br.mk (fun _ => ?_) (fun c => absurd (show ((reqL H Q ⟨1073741824, xi, xlo, xhi, xe, xx⟩).1 == 0) = false from c) (by rw [l1]; decide))
        conv => whnf
      · have c7 : b = false := c7
        obtain ⟨l1, l2⟩ := law2 c7
        conv => whnf
        refine Br.mk (fun _ => ?_) (fun c => absurd (show ((reqL H Q ⟨1073741824, xi, xlo, xhi, xe, xx⟩).1 == 15) = false from c) (by rw [l1]; show ¬ (((15 : Int) == 15) = false); decide))
        conv => whnf
        refine Need.mk (by decide) (Cast.mk _ _ (Cast.mk _ _ (Need.mk ?_ ?_)))
        · show (reqL H Q ⟨1073741824, xi, xlo, xhi, xe, xx⟩).2.1.length + (reqL H Q ⟨1073741824, xi, xlo, xhi, xe, xx⟩).2.2.length < 1048576
          rw [l1]; simp; omega
        conv => whnf
        have l3 : (reqL (reqL H Q ⟨1073741824, xi, xlo, xhi, xe, xx⟩).2.1 (reqL H Q ⟨1073741824, xi, xlo, xhi, xe, xx⟩).2.2 ⟨1073741824, xi, xlo, xhi, xe, xx⟩).1 = 15 := by rw [l1, l2]
        refine Br.mk (fun _ => ?_) (fun c => absurd (show ((reqL (reqL H Q ⟨1073741824, xi, xlo, xhi, xe, xx⟩).2.1 (reqL H Q ⟨1073741824, xi, xlo, xhi, xe, xx⟩).2.2 ⟨1073741824, xi, xlo, xhi, xe, xx⟩).1 == 15) = false from c) (by rw [l3]; decide))
        conv => whnf
end Go.Proofs.Ytljokmmgkecjbaa

namespace Go.Proofs.Ytljokmmgkecjbaa
open Go Go.AM
/-! equal lists are told equal -/
noncomputable def E59 : Eng := mkEng Try.prog kinds46b eqT noQT noSpec noQ
theorem E59_ok : E59.Ok := mkEng_ok mixedT (fun _ _ _ _ h => by cases h) (fun _ _ _ _ h => h.elim) (fun _ _ _ _ _ h => by cases h) eqT_ok
theorem locks_base (xs : List Lk) : TripleF Try.prog 59 [.sc (.h 0), .sc (.h 1)] [.ro lockK xs, .ro lockK xs] (fun r _ => r = .sc (.bool true) ∧ r.below 0 = true) := by
  refine base_of_awp (R := fun r => r = .sc (.bool true)) E59_ok Try.func59 rfl (by kernel_rfl) ?_
  conv => whnf
  refine Know.mk fun hlen => ?_
  have hlen : xs.length ≤ 9223372036854775807 := hlen
  conv => whnf
  refine Know.mk fun _ => ?_
  conv => whnf
  refine Br.mk (fun c => ?_) (fun _ => ?_)
  · have c : ((xs.length : Int) != (xs.length : Int)) = true := c
    simp at c
  conv => whnf
  refine LoopF.inv Nat (fun k => k ≤ xs.length) (fun k => [(5, .sc (.int false .i64 (k : Int)))]) (fun k => xs.length - k) (fun _ => [AM.Item.ro lockK xs, AM.Item.ro lockK xs]) (fun _ => Nat.le_refl _) 0 []
    (Nat.zero_le _) ⟨⟨⟨rfl, rfl⟩, trivial⟩, ⟨rfl, rfl, trivial⟩, rfl⟩ ?_
  rintro k h1
  conv => whnf
  refine Know.mk fun _ => ?_
  conv => whnf
  refine Br.mk (fun c1 => ?_) (fun c1 => ?_)
  · have hk := ltN c1
    conv => whnf
    refine Need.mk (by kernel_rfl) ?_
    conv => whnf
    refine Need.mk (show 0 ≤ (k : Int) ∧ (k : Int) < (xs.length : Nat) from ⟨by omega, by omega⟩) ?_
    conv => whnf
    refine Need.mk (show 0 ≤ (k : Int) ∧ (k : Int) < (xs.length : Nat) from ⟨by omega, by omega⟩) ?_
    conv => whnf
    refine Br.mk (fun c => ?_) (fun _ => ?_)
    · have c : (!eqL (nth xs k lk0) (nth xs k lk0)) = true := c
      rw [eqL_refl] at c; cases c
    conv => whnf
    exact ⟨k + 1, [], by omega, by omega, ⟨⟨⟨rfl, wrap_succ hk hlen⟩, trivial⟩, ⟨rfl, rfl, trivial⟩, rfl⟩, rfl⟩
  · conv => whnf
theorem ints_base (xs : List Int) : TripleF Try.prog 65 [.sc (.h 0), .sc (.h 1)] [.ro int55 xs, .ro int55 xs] (fun r _ => r = .sc (.bool true) ∧ r.below 0 = true) := by
  refine base_of_awp (R := fun r => r = .sc (.bool true)) E59_ok Try.func65 rfl (by kernel_rfl) ?_
  conv => whnf
  refine Know.mk fun hlen => ?_
  have hlen : xs.length ≤ 9223372036854775807 := hlen
  conv => whnf
  refine Know.mk fun _ => ?_
  conv => whnf
  refine Br.mk (fun c => ?_) (fun _ => ?_)
  · have c : ((xs.length : Int) != (xs.length : Int)) = true := c
    simp at c
  conv => whnf
  refine LoopF.inv Nat (fun k => k ≤ xs.length) (fun k => [(5, .sc (.int false .i64 (k : Int)))]) (fun k => xs.length - k) (fun _ => [AM.Item.ro int55 xs, AM.Item.ro int55 xs]) (fun _ => Nat.le_refl _) 0 []
    (Nat.zero_le _) ⟨⟨⟨rfl, rfl⟩, trivial⟩, ⟨rfl, rfl, trivial⟩, rfl⟩ ?_
  rintro k h1
  conv => whnf
  refine Know.mk fun _ => ?_
  conv => whnf
  refine Br.mk (fun c1 => ?_) (fun c1 => ?_)
  · have hk := ltN c1
    conv => whnf
    refine Need.mk (by kernel_rfl) ?_
    conv => whnf
    refine Need.mk (show 0 ≤ (k : Int) ∧ (k : Int) < (xs.length : Nat) from ⟨by omega, by omega⟩) ?_
    conv => whnf
    refine Need.mk (show 0 ≤ (k : Int) ∧ (k : Int) < (xs.length : Nat) from ⟨by omega, by omega⟩) ?_
    conv => whnf
    refine Br.mk (fun c => ?_) (fun _ => ?_)
    · have c : (nth xs k 0 != nth xs k 0) = true := c
      simp at c
    conv => whnf
    exact ⟨k + 1, [], by omega, by omega, ⟨⟨⟨rfl, wrap_succ hk hlen⟩, trivial⟩, ⟨rfl, rfl, trivial⟩, rfl⟩, rfl⟩
  · conv => whnf
def eqS (K0 : Kind) (args : List AVal) (m : List AM.Item) (k : AVal → List AM.Item → Prop) : Prop := match args with
  | [.sc (.h a), .sc (.h b)] => match (nth m a .gone).row, (nth m b .gone).row with
    | some ⟨K1, xs⟩, some ⟨K2, ys⟩ => Cast (K1 := K0) K1 xs fun xs => Cast (K1 := K0) K2 ys fun ys => Need (xs = ys) (k (.sc (.bool true)) m)
    | _, _ => False
  | _ => False
theorem eqS_ok {K0 : Kind} {f : FuncId} (hT : ∀ xs : List K0.T, TripleF Try.prog f [.sc (.h 0), .sc (.h 1)] [.ro K0 xs, .ro K0 xs] (fun r _ => r = .sc (.bool true) ∧ r.below 0 = true)) {args : List AVal} {m : List AM.Item} {k : AVal → List AM.Item → Prop} (h : eqS K0 args m k) : TripleF Try.prog f args m k := by
  unfold eqS at h
  split at h
  · rename_i a b
    split at h
    · rename_i K1 xs K2 ys ha hb
      obtain ⟨xs, _, ys, _, rfl, h⟩ := h
      exact frame_ro2 (hT xs) [a, b] rfl rfl ⟨⟨K0, xs, ha, rfl, rfl⟩, ⟨K0, xs, hb, rfl, rfl⟩, trivial⟩ fun r hr => hr ▸ h
    · exact h.elim
  · exact h.elim
end Go.Proofs.Ytljokmmgkecjbaa

namespace Go.Proofs.Ytljokmmgkecjbaa
open Go Go.AM
/-! asking again -/
theorem covers_self (r : Rng) : coversB r r = true := by
  obtain ⟨lo, hi, e⟩ := r
  unfold coversB
  cases e <;> simp [sLess_irrefl]
theorem req_cov {held queue : List Lk} {l : Lk} (hv : validL l = true) (hc : held.any (covB l) = true) : reqL held queue l = (0, held, queue) := by
  simp only [reqL, hv, hc]
theorem again1 {held queue : List Lk} (h : WF held queue) {x : Lk} (hx : x ∈ held) : reqL held queue x = (0, held, queue) := by
  refine req_cov (h.vh x hx) (List.any_eq_true.2 ⟨x, hx, ?_⟩)
  simp [covB, covers_self]
def partL (x : Lk) : Lk := ⟨x.u, x.i, x.lo, x.lo, false, false⟩
theorem again2 {held queue : List Lk} (h : WF held queue) {x : Lk} (hx : x ∈ held) : reqL held queue (partL x) = (0, held, queue) := by
  have hv := h.vh x hx
  have hp := valid_parts hv
  have hv2 : validL (partL x) = true := by
    simp only [validL, partL, Lk.rg, emptyB, sLess_irrefl, Bool.and_true, Bool.not_false, Bool.and_eq_true, Bool.not_eq_true'] at hv ⊢
    obtain ⟨⟨⟨⟨a, b⟩, c⟩, d⟩, e⟩ := hv
    exact ⟨⟨⟨⟨a, b⟩, c⟩, c⟩, rfl⟩
  refine req_cov hv2 (List.any_eq_true.2 ⟨x, hx, ?_⟩)
  have he := hp.2.2.2.2
  obtain ⟨u, i, lo, hi, e, xx⟩ := x
  simp only [covB, partL, Lk.rg, coversB, emptyB, sLess_irrefl, beq_self_eq_true, Bool.not_false, Bool.or_true, Bool.true_and, Bool.and_true, Bool.false_or] at he ⊢
  cases e
  · simpa using he
  · simp
noncomputable def canR (s : List Lk × List Lk) (x : Lk) : List Lk × List Lk := ((grantL s.1 [] (s.2.filter (notB x.u))).1, (grantL s.1 [] (s.2.filter (notB x.u))).2.1)
noncomputable def canF (l : List Lk) (s : List Lk × List Lk) : List Lk × List Lk := l.foldl canR s
theorem can_wf : ∀ (l : List Lk) (s : List Lk × List Lk), WF s.1 s.2 → WF (canF l s).1 (canF l s).2
  | [], _, h => h
  | x :: l, s, h => can_wf l _ (grant_wf _ _ _ (by simpa using h.filterQ _))
theorem can_len : ∀ (l : List Lk) (s : List Lk × List Lk), (canF l s).1.length + (canF l s).2.length ≤ s.1.length + s.2.length
  | [], _ => Nat.le_refl _
  | x :: l, s => by
    refine Nat.le_trans (can_len l (canR s x)) ?_
    have h1 := grantL_len s.1 [] (s.2.filter (notB x.u))
    have h2 := List.length_filter_le (notB x.u) s.2
    simp only [canR, List.length_nil] at *; omega
theorem can_sub : ∀ (l : List Lk) (s : List Lk × List Lk) (y : Lk), y ∈ (canF l s).2 → y ∈ s.2 ∧ ∀ x ∈ l, y.u ≠ x.u
  | [], s, y, h => ⟨h, fun x hx => by cases hx⟩
  | x :: l, s, y, h => by
    obtain ⟨h1, h2⟩ := can_sub l (canR s x) y h
    have := grant_sub _ _ _ y h1
    rw [List.nil_append] at this
    have hf := List.mem_filter.1 this
    refine ⟨hf.1, fun z hz => ?_⟩
    rcases List.mem_cons.1 hz with rfl | hz
    · simpa [notB, ofB] using hf.2
    · exact h2 z hz
theorem can_end (held queue : List Lk) : (canF queue (held, queue)).2 = [] := by
  refine List.eq_nil_iff_forall_not_mem.2 fun y hy => ?_
  obtain ⟨h1, h2⟩ := can_sub queue (held, queue) y hy
  exact h2 y h1 rfl
theorem can_snoc {l : List Lk} {s : List Lk × List Lk} {j : Nat} (hj : j < l.length) : canF (l.take (j + 1)) s = canR (canF (l.take j) s) (l.getD j lk0) := by
  unfold canF
  rw [List.take_succ_eq_append_getElem hj, List.foldl_append, List.getD_eq_getElem?_getD, List.getElem?_eq_getElem hj]; rfl
theorem newF_id : ∀ (xs acc : List Lk), (∀ x ∈ xs, validL x = true) → (acc ++ xs).Pairwise (fun x y => confL x y = false) → xs.foldl (fun acc l => if (validL l && !conflB acc l) = true then acc ++ [l] else acc) acc = acc ++ xs
  | [], acc, _, _ => by simp
  | l :: xs, acc, hv, hp => by
    have hc : conflB acc l = false := by
      unfold conflB
      rw [List.any_eq_false]
      intro y hy
      rw [List.pairwise_append] at hp
      simpa using hp.2.2 y hy l (by simp)
    rw [List.foldl_cons, if_pos (by rw [hv l (by simp), hc]; rfl), newF_id xs (acc ++ [l]) (fun x hx => hv x (by simp [hx])) (by rw [List.append_assoc]; exact hp)]
    simp
theorem new_id {held queue : List Lk} (h : WF held queue) : newL held = held := by
  have := newF_id held [] h.vh (by simpa using h.ch)
  simpa [newL] using this
theorem playF_snoc {acts : List Ac} {s : List Lk × List Lk} {k : Nat} (hk : k < acts.length) : playF (acts.take (k + 1)) s = ((doL (playF (acts.take k) s).1 (playF (acts.take k) s).2 (acts.getD k ac0)).held, (doL (playF (acts.take k) s).1 (playF (acts.take k) s).2 (acts.getD k ac0)).queue) := by
  unfold playF
  rw [List.take_succ_eq_append_getElem hk, List.foldl_append, List.getD_eq_getElem?_getD, List.getElem?_eq_getElem hk]; rfl
noncomputable def sp46h (f : FuncId) (args : List AVal) (m : List AM.Item) (k : AVal → List AM.Item → Prop) : Prop := match f with
  | 59 => eqS lockK args m k
  | 65 => eqS int55 args m k
  | f => sp46g f args m k
theorem sp46h_ok : ∀ f args m k, sp46h f args m k → TripleF Try.prog f args m k := by
  intro f args m k h
  unfold sp46h at h
  split at h
  · exact eqS_ok locks_base h
  · exact eqS_ok ints_base h
  · exact sp46g_ok _ _ _ _ h
noncomputable def E14 : Eng := mkEngX Try.prog kinds46b eqT qt46e sp46h noQ maps46 (fun _ _ _ => none) (fun _ => false)
theorem E14_ok : E14.Ok := mkEngX_ok mixedT qt46eok sp46h_ok (fun _ _ _ _ _ h => by cases h) eqT_ok maps46_ok (fun _ _ _ _ h => by cases h)
set_option maxHeartbeats 4000000 in
theorem again_base (acts further : List Ac) : TripleF Try.prog 14 [.sc (.h 0), .sc (.h 1)] [.ro actK acts, .ro actK further] (fun r _ => r = .sc (.bool true) ∧ r.below 0 = true) := by
  refine base_of_awp (R := fun r => r = .sc (.bool true)) E14_ok Try.func14 rfl (by kernel_rfl) ?_
  conv => whnf
  refine Cast.mk _ _ ?_
  conv => whnf
  refine Br.mk (fun c1 => ?_) (fun c1 => ?_)
  · conv => whnf
  conv => whnf
  refine Cast.mk _ _ ?_
  conv => whnf
  refine Br.mk (fun c2 => ?_) (fun c2 => ?_)
  · conv => whnf
  have c1 : fewA acts 40 = true := by
    have c1 : (!fewA acts 40) = false := c1
    simpa using c1
  have c2 : fewA further 40 = true := by
    have c2 : (!fewA further 40) = false := c2
    simpa using c2
  have hl1 := few_len c1
  have hl2 := few_len c2
  conv => whnf
  refine Cast.mk _ _ (Need.mk (by omega) ?_)
  conv => whnf
  have hpl := play_len acts
  have hwf := play_wf acts
  refine Need.mk (by decide) (Cast.mk _ _ (Cast.mk _ _ (Need.mk ⟨by omega, by omega⟩ ?_)))
  generalize hH : (playL acts).1 = H at hpl hwf ⊢
  generalize hQ : (playL acts).2 = Q at hpl hwf ⊢
  conv => whnf
  refine Know.mk fun hlen => ?_
  have hlen : H.length ≤ 9223372036854775807 := hlen
  conv => whnf
  refine LoopF.inv Nat (fun i => i ≤ H.length) (fun i => [(44, .sc (.int false .i64 (i : Int)))]) (fun i => H.length - i)
    (fun i => [.ro actK acts, .ro actK further, .box 112 [.h 7, .h 8], .gone, .gone, .slc lockK H, .slc lockK Q, .slc lockK H, .slc lockK Q]) (fun _ => Nat.le_add_right 7 2) 0 [3, 4]
    (Nat.zero_le _) ⟨⟨⟨rfl, rfl⟩, trivial⟩, ⟨rfl, rfl, ⟨rfl, rfl⟩, trivial, trivial, rfl, rfl, rfl, rfl, trivial⟩, rfl⟩ ?_
  rintro i h1
  conv => whnf
  refine Br.mk (fun c3 => ?_) (fun c3 => ?_)
  · have hi := ltN c3
    refine Need.mk (show 0 ≤ (i : Int) ∧ (i : Int) < (H.length : Nat) from ⟨by omega, by omega⟩) ?_
    conv => whnf
    have hX : nth H ((i : Int)).toNat lockK.d = H.getD i lk0 := nth_eq _ _ _
    have hXm : H.getD i lk0 ∈ H := by
      rw [List.getD_eq_getElem?_getD, List.getElem?_eq_getElem hi]; exact List.getElem_mem hi
    rw [← hX] at hXm
    have l1 := again1 hwf hXm
    have l2 := again2 hwf hXm
    generalize nth H ((i : Int)).toNat lockK.d = X at l1 l2 ⊢
    obtain ⟨Xu, Xi, Xlo, Xhi, Xe, Xx⟩ := X
    conv => whnf
    refine Need.mk (by kernel_rfl) ?_
    conv => whnf
    refine Need.mk (show 7 ≠ 8 by decide) (Cast.mk _ _ (Cast.mk _ _ (Need.mk (by omega) ?_)))
    rw [l1]
    conv => whnf
    refine Br.mk (fun c => absurd (show ((0 : Int) != 0) = true from c) (by decide)) (fun _ => ?_)
    conv => whnf
    refine Need.mk (by decide) (Cast.mk _ _ (Cast.mk _ _ (Need.mk (show H.length + Q.length < 1048576 by omega) ?_)))
    have l3 : reqL ((0 : Int), H, Q).2.1 ((0 : Int), H, Q).2.2 ⟨Xu, Xi, Xlo, Xlo, false, false⟩ = (0, H, Q) := l2
    rw [l3]
    conv => whnf
    refine Br.mk (fun c => absurd (show ((0 : Int) != 0) = true from c) (by decide)) (fun _ => ?_)
    conv => whnf
    exact ⟨i + 1, [13, 14], by omega, by omega, ⟨⟨⟨rfl, wrap_succ hi hlen⟩, trivial⟩, ⟨rfl, rfl, ⟨rfl, rfl⟩, trivial, trivial, rfl, rfl, rfl, rfl, trivial⟩, rfl⟩, rfl⟩
  · have hi := geN c3
    conv => whnf
    refine Need.mk (show 7 ≠ 8 by decide) (Cast.mk _ _ (Cast.mk _ _ (Need.mk ⟨by omega, by omega⟩ ?_)))
    conv => whnf
    refine Cast.mk _ _ ?_
    conv => whnf
    refine Cast.mk _ _ ?_
    conv => whnf
    refine Need.mk rfl ?_
    conv => whnf
    refine Br.mk (fun c => absurd (show (!true) = true from c) (by decide)) (fun _ => ?_)
    conv => whnf
    refine Cast.mk _ _ ?_
    conv => whnf
    refine Cast.mk _ _ ?_
    conv => whnf
    refine Need.mk rfl ?_
    conv => whnf
    refine Br.mk (fun c => absurd (show (!true) = true from c) (by decide)) (fun _ => ?_)
    conv => whnf
    refine Know.mk fun hlq => ?_
    have hlq : Q.length ≤ 9223372036854775807 := hlq
    conv => whnf
    refine LoopF.inv Nat (fun j => j ≤ Q.length) (fun j => [(90, .sc (.int false .i64 (j : Int)))]) (fun j => Q.length - j)
      (fun j => [.ro actK acts, .ro actK further, .box 112 [.h 11, .h 12], .gone, .gone, .gone, .slc lockK Q, .gone, .gone, .gone, .gone, .slc lockK (canF (Q.take j) (H, Q)).1, .slc lockK (canF (Q.take j) (H, Q)).2]) (fun _ => Nat.le_add_right 11 2) 0 [7, 8]
      (Nat.zero_le _) ⟨⟨⟨rfl, rfl⟩, trivial⟩, ⟨rfl, rfl, ⟨rfl, rfl⟩, trivial, trivial, trivial, rfl, trivial, trivial, trivial, trivial, rfl, rfl, trivial⟩, rfl⟩ ?_
    rintro j h2
    have hsn : j < Q.length → canF (Q.take (j + 1)) (H, Q) = canR (canF (Q.take j) (H, Q)) (Q.getD j lk0) := can_snoc
    have hwhole : Q.length ≤ j → canF (Q.take j) (H, Q) = canF Q (H, Q) := fun h => by rw [List.take_of_length_le h]
    have hcl := can_len (Q.take j) (H, Q)
    have hcw := can_wf (Q.take j) (H, Q) hwf
    generalize canF (Q.take j) (H, Q) = T at hsn hwhole hcl hcw
    simp only at hcl
    conv => whnf
    refine Br.mk (fun c4 => ?_) (fun c4 => ?_)
    · have hj := ltN c4
      have hsn := hsn hj
      refine Need.mk (show 0 ≤ (j : Int) ∧ (j : Int) < (Q.length : Nat) from ⟨by omega, by omega⟩) ?_
      conv => whnf
      refine Need.mk (show 11 ≠ 12 by decide) (Cast.mk _ _ (Cast.mk _ _ (Need.mk (by omega) ?_)))
      conv => whnf
      refine ⟨j + 1, [14, 15], by omega, by omega, ⟨⟨⟨rfl, wrap_succ hj hlq⟩, trivial⟩, ⟨rfl, rfl, ⟨rfl, rfl⟩, trivial, trivial, trivial, rfl, trivial, trivial, trivial, trivial, ?_, ?_, trivial⟩, rfl⟩, rfl⟩
      · show AM.Item.slc lockK (grantL T.1 [] (T.2.filter (notB (nth Q j lk0).u))).1 = .slc lockK (canF (Q.take (j + 1)) (H, Q)).1
        rw [hsn, canR, nth_eq]
      · show AM.Item.slc lockK (grantL T.1 [] (T.2.filter (notB (nth Q j lk0).u))).2.1 = .slc lockK (canF (Q.take (j + 1)) (H, Q)).2
        rw [hsn, canR, nth_eq]
    · have hj := geN c4
      have he : T.2 = [] := by rw [hwhole hj]; exact can_end H Q
      obtain ⟨N, T2⟩ := T
      simp only at he
      subst he
      simp only at hcl
      have hN := new_id hcw
      simp only at hN
      conv => whnf
      refine Need.mk (show 11 ≠ 12 by decide) (Cast.mk _ _ (Cast.mk _ _ (Need.mk ⟨show N.length ≤ 1048576 by simp at hcl; omega, Nat.zero_le _⟩ ?_)))
      conv => whnf
      refine Cast.mk _ _ (Need.mk (show N.length ≤ 1048576 by simp at hcl; omega) ?_)
      conv => whnf
      refine Know.mk fun hlf => ?_
      have hlf : further.length ≤ 9223372036854775807 := hlf
      conv => whnf
      refine LoopF.inv Nat (fun k => k ≤ further.length) (fun k => [(110, .sc (.int false .i64 (k : Int)))]) (fun k => further.length - k)
        (fun k => [.ro actK acts, .ro actK further, .box 112 [.h 18, .h 19], .gone, .gone, .gone, .gone, .gone, .gone, .gone, .gone, .gone, .gone, .gone, .gone, .box 112 [.h 20, .h 21], .gone, .gone,
          .slc lockK (playF (further.take k) (N, [])).1, .slc lockK (playF (further.take k) (N, [])).2, .slc lockK (playF (further.take k) (N, [])).1, .slc lockK (playF (further.take k) (N, [])).2]) (fun _ => Nat.le_add_right 18 4) 0 [11, 12, 16, 17]
        (Nat.zero_le _) ⟨⟨⟨rfl, rfl⟩, trivial⟩, ⟨rfl, rfl, ⟨rfl, rfl⟩, trivial, trivial, trivial, trivial, trivial, trivial, trivial, trivial, trivial, trivial, trivial, trivial, ⟨rfl, rfl⟩, trivial, trivial, rfl, rfl, ?_, rfl, trivial⟩, rfl⟩ ?_
      · show AM.Item.slc lockK (newL N) = .slc lockK N
        rw [hN]
      rintro k h3
      have hps : k < further.length → playF (further.take (k + 1)) (N, []) = _ := playF_snoc
      have hpl2 := playF_len (further.take k) (N, [])
      generalize playF (further.take k) (N, []) = P at hps hpl2
      rw [List.length_take] at hpl2
      simp only [List.length_nil] at hpl2 hcl
      conv => whnf
      refine Br.mk (fun c5 => ?_) (fun c5 => ?_)
      · have hk := ltN c5
        have hps := hps hk
        refine Need.mk (show 0 ≤ (k : Int) ∧ (k : Int) < (further.length : Nat) from ⟨by omega, by omega⟩) ?_
        conv => whnf
        refine Need.mk (show 18 ≠ 19 by decide) (Cast.mk _ _ (Cast.mk _ _ (Need.mk (by omega) ?_)))
        conv => whnf
        refine Need.mk (show 20 ≠ 21 by decide) (Cast.mk _ _ (Cast.mk _ _ (Need.mk (by omega) ?_)))
        conv => whnf
        refine Br.mk (fun c => ?_) (fun _ => ?_)
        · have c : ((doL P.1 P.2 (nth further k ac0)).e != (doL P.1 P.2 (nth further k ac0)).e) = true := c
          simp at c
        conv => whnf
        refine Cast.mk _ _ ?_
        conv => whnf
        refine Cast.mk _ _ ?_
        conv => whnf
        refine Need.mk rfl ?_
        conv => whnf
        refine Br.mk (fun c => absurd (show (!true) = true from c) (by decide)) (fun _ => ?_)
        conv => whnf
        refine ⟨k + 1, [23, 24, 26, 27], by omega, by omega, ⟨⟨⟨rfl, wrap_succ hk hlf⟩, trivial⟩, ⟨rfl, rfl, ⟨rfl, rfl⟩, trivial, trivial, trivial, trivial, trivial, trivial, trivial, trivial, trivial, trivial, trivial, trivial, ⟨rfl, rfl⟩, trivial, trivial, ?_, ?_, ?_, ?_, trivial⟩, rfl⟩, rfl⟩
        all_goals rw [hps, ← nth_eq]
        all_goals rfl
      · conv => whnf
end Go.Proofs.Ytljokmmgkecjbaa

namespace Go.Proofs.Ytljokmmgkecjbaa
open Go Go.AM
/-! the reference's conflicts and New -/
noncomputable def E96 : Eng := mkEng Try.prog kinds46b eqT qt46c noSpec noQ
theorem E96_ok : E96.Ok := mkEng_ok mixedT qt46cok (fun _ _ _ _ h => h.elim) (fun _ _ _ _ _ h => by cases h) eqT_ok
theorem rconflicts_base (xs : List Lk) (x : Lk) : TripleF Try.prog 96 [.sc (.h 0), x.A] [.ro lockK xs] (fun r _ => r = .sc (.bool (conflB xs x)) ∧ r.below 0 = true) := by
  refine base_of_awp (R := fun r => r = .sc (.bool (conflB xs x))) E96_ok Try.func96 rfl (by kernel_rfl) ?_
  obtain ⟨u, i, lo, hi, e, x'⟩ := x
  simp only [Lk.A]
  conv => whnf
  refine LoopF.inv Nat (fun k => k ≤ xs.length ∧ (xs.take k).any (fun y => confL y ⟨u, i, lo, hi, e, x'⟩) = false) (fun k => [(5, .sc (.int false .i64 (k : Int)))]) (fun k => xs.length - k)
    (fun _ => [.ro lockK xs, .box 58 (Lk.S ⟨u, i, lo, hi, e, x'⟩)]) (fun _ => Nat.le_refl _) 0 []
    ⟨Nat.zero_le _, rfl⟩ ⟨⟨⟨rfl, rfl⟩, trivial⟩, ⟨rfl, ⟨rfl, rfl⟩, trivial⟩, rfl⟩ ?_
  rintro k ⟨h1, h2⟩
  conv => whnf
  refine Know.mk fun hlen => ?_
  have hlen : xs.length ≤ 9223372036854775807 := hlen
  conv => whnf
  refine Br.mk (fun c1 => ?_) (fun c1 => ?_)
  · have hk := ltN c1
    have hsn := any_snoc (p := fun y => confL y ⟨u, i, lo, hi, e, x'⟩) hk
    conv => whnf
    refine Need.mk (by kernel_rfl) ?_
    conv => whnf
    refine Need.mk (show 0 ≤ (k : Int) ∧ (k : Int) < (xs.length : Nat) from ⟨by omega, by omega⟩) ?_
    conv => whnf
    refine Need.mk trivial ?_
    conv => whnf
    refine Br.mk (fun c2 => ?_) (fun c2 => ?_)
    · have c2 : confL (nth xs k lk0) ⟨u, i, lo, hi, e, x'⟩ = true := c2
      rw [nth_eq] at c2
      conv => whnf
      have : conflB xs ⟨u, i, lo, hi, e, x'⟩ = true := by
        refine List.any_eq_true.2 ⟨xs.getD k lk0, ?_, c2⟩
        rw [List.getD_eq_getElem?_getD, List.getElem?_eq_getElem hk]; exact List.getElem_mem hk
      rw [this]
    · have c2 : confL (nth xs k lk0) ⟨u, i, lo, hi, e, x'⟩ = false := c2
      rw [nth_eq] at c2
      conv => whnf
      refine ⟨k + 1, [], ⟨by omega, by rw [hsn, h2, c2]; rfl⟩, by omega, ⟨⟨⟨rfl, wrap_succ hk hlen⟩, trivial⟩, ⟨rfl, ⟨rfl, rfl⟩, trivial⟩, rfl⟩, rfl⟩
  · have c1 := geN c1
    rw [List.take_of_length_le c1] at h2
    conv => whnf
    have : conflB xs ⟨u, i, lo, hi, e, x'⟩ = false := h2
    rw [this]
theorem confQ96_ok {args : List AVal} {m : List AM.Item} {p : Prop} {r : AVal} (h : confQ args m = some (p, r)) (hp : p) {m2 : List AM.Item} (hle : LeM m m2) : TripleF Try.prog 96 args m2 fun r' m' => r' = r ∧ m' = m2 := by
  unfold confQ at h
  split at h
  · rename_i t x
    split at h
    · rename_i l hl
      split at h
      · rename_i K xs hrow
        cases h
        cases hp
        have hn : m[t]? = some (nth m t .gone) := nth_some rfl (by intro e; rw [e] at hrow; cases hrow)
        have hn2 := hle.2 t _ hn (by
          cases hit : nth m t Item.gone with
          | gone => rw [hit] at hrow; cases hrow
          | _ => rfl)
        have hf : roFit2 m2 [.ro lockK xs] [t] := by
          refine ⟨⟨lockK, xs, ?_, rfl, rfl⟩, trivial⟩
          rw [show nth m2 t .gone = nth m t .gone from by rw [nth_eq, List.getD_eq_getElem?_getD, hn2]; rfl]
          exact hrow
        exact TripleF.arg (pre := [.sc (.h t)]) (post := []) (fun env v => lkOf_rep hl) (frame_ro2 (rconflicts_base xs l) [t] rfl rfl hf fun r hr => by rw [castL_eq]; exact ⟨hr, rfl⟩)
      · cases h
    · cases h
  · cases h
noncomputable def qs46r (f : FuncId) (args : List AVal) (m : List AM.Item) : Option (Prop × AVal) := match f with
  | 96 => confQ args m
  | _ => none
theorem qs46r_ok : ∀ f args m p r, qs46r f args m = some (p, r) → p → ∀ m2, LeM m m2 → TripleF Try.prog f args m2 fun r' m' => r' = r ∧ m' = m2 := by
  intro f args m p r h hp m2 hle
  unfold qs46r at h
  split at h
  · exact confQ96_ok h hp hle
  · cases h
noncomputable def E60 : Eng := mkEng Try.prog kinds46b eqT qt46c noSpec qs46r
theorem E60_ok : E60.Ok := mkEng_ok mixedT qt46cok (fun _ _ _ _ h => h.elim) qs46r_ok eqT_ok
theorem rnew_base (xs : List Lk) (hb : xs.length ≤ 1048576) : TripleF Try.prog 60 [.sc (.h 0)] [.ro lockK xs] (fun r m' => r = .agg [.h 1, .h 2] ∧ m' = [.ro lockK xs, .slc lockK (newL xs), .slc lockK []]) := by
  refine triple_of_awp E60_ok Try.func60 rfl (by kernel_rfl) ?_
  conv => whnf
  refine LoopF.tell (.nilB 2 0 lockK) _ _ (And.intro rfl rfl) ?_
  refine LoopF.tell (.nilB 2 1 lockK) _ _ (And.intro rfl rfl) ?_
  refine LoopF.inv Nat (fun k => k ≤ xs.length) (fun k => [(4, .sc (.int false .i64 (k : Int)))]) (fun k => xs.length - k)
    (fun k => [.ro lockK xs, .box 76 [.val (.slice none 0 0), .val (.slice none 0 0)], .box 76 [.h 5, .h 4], .gone, .slc lockK [], .slc lockK (newL (xs.take k))]) (fun _ => Nat.le_succ _) 0 [3]
    (Nat.zero_le _) ⟨⟨⟨rfl, rfl⟩, trivial⟩, ⟨rfl, ⟨rfl, rfl⟩, ⟨rfl, rfl⟩, trivial, rfl, rfl, trivial⟩, rfl⟩ ?_
  rintro k h1
  conv => whnf
  refine Know.mk fun hlen => ?_
  have hlen : xs.length ≤ 9223372036854775807 := hlen
  conv => whnf
  have hnl := newL_le (xs.take k)
  rw [List.length_take] at hnl
  refine Br.mk (fun c1 => ?_) (fun c1 => ?_)
  · have hk := ltN c1
    have hfs := foldl_snoc (f := fun acc l => if (validL l && !conflB acc l) = true then acc ++ [l] else acc) (a := ([] : List Lk)) hk
    conv => whnf
    refine Need.mk (by kernel_rfl) ?_
    conv => whnf
    refine Need.mk (show 0 ≤ (k : Int) ∧ (k : Int) < (xs.length : Nat) from ⟨by omega, by omega⟩) ?_
    conv => whnf
    refine Need.mk trivial ?_
    conv => whnf
    refine Br.mk (fun c2 => ?_) (fun c2 => ?_)
    · have c2 : validL (nth xs (k : Int).toNat lk0) = true := c2
      rw [Int.toNat_natCast, nth_eq] at c2
      conv => whnf
      refine Need.mk (show 0 ≤ (k : Int) ∧ (k : Int) < (xs.length : Nat) from ⟨by omega, by omega⟩) ?_
      conv => whnf
      refine Need.mk rfl ?_
      conv => whnf
      refine Br.mk (fun c3 => ?_) (fun c3 => ?_)
      · have c3 : (!conflB (castL lockK (newL (xs.take k))) (nth xs (k : Int).toNat lk0)) = true := c3
        rw [Int.toNat_natCast, nth_eq, castL_eq] at c3
        rw [if_pos (by rw [c2]; simp only [newL] at c3; rw [c3]; rfl)] at hfs
        conv => whnf

        refine Need.mk (show 0 ≤ (k : Int) ∧ (k : Int) < (xs.length : Nat) from ⟨by omega, by omega⟩) ?_
        conv => whnf

        refine Cast.mk _ _ ?_
        conv => whnf
        refine Need.mk (show ((newL (xs.take k)).length + 1) * 64 ≤ 140737488355328 from by omega) ?_
        conv => whnf
        refine Need.mk (by kernel_rfl) ?_
        conv => whnf
        refine ⟨k + 1, [7], by omega, by omega, ⟨⟨⟨rfl, wrap_succ hk hlen⟩, trivial⟩, ⟨rfl, ⟨rfl, rfl⟩, ⟨rfl, rfl⟩, trivial, rfl, ?_, trivial⟩, rfl⟩, rfl⟩
        show AM.Item.slc lockK (newL (xs.take k) ++ [nth xs (k : Int).toNat lk0]) = .slc lockK (newL (xs.take (k + 1)))
        rw [Int.toNat_natCast, nth_eq]
        conv => rhs; rw [newL, hfs]
        rfl
      · have c3 : (!conflB (castL lockK (newL (xs.take k))) (nth xs (k : Int).toNat lk0)) = false := c3
        rw [Int.toNat_natCast, nth_eq, castL_eq] at c3
        rw [if_neg (by rw [c2]; simp only [newL] at c3; rw [c3]; simp)] at hfs
        conv => whnf
        refine ⟨k + 1, [5], by omega, by omega, ⟨⟨⟨rfl, wrap_succ hk hlen⟩, trivial⟩, ⟨rfl, ⟨rfl, rfl⟩, ⟨rfl, rfl⟩, trivial, rfl, ?_, trivial⟩, rfl⟩, rfl⟩
        show AM.Item.slc lockK (newL (xs.take k)) = .slc lockK (newL (xs.take (k + 1)))
        rw [newL, newL, hfs]
    · have c2 : validL (nth xs (k : Int).toNat lk0) = false := c2
      rw [Int.toNat_natCast, nth_eq] at c2
      conv => whnf
      rw [if_neg (by rw [c2]; simp)] at hfs
      refine ⟨k + 1, [5], by omega, by omega, ⟨⟨⟨rfl, wrap_succ hk hlen⟩, trivial⟩, ⟨rfl, ⟨rfl, rfl⟩, ⟨rfl, rfl⟩, trivial, rfl, ?_, trivial⟩, rfl⟩, rfl⟩
      show AM.Item.slc lockK (newL (xs.take k)) = .slc lockK (newL (xs.take (k + 1)))
      rw [newL, newL, hfs]
  · have c1 := geN c1
    conv => whnf
    refine FinF.mk _ (.agg [.h 1, .h 2]) [.ro lockK xs, .slc lockK (newL xs), .slc lockK []] [5, 4] rfl rfl rfl ⟨rfl, ?_, rfl, trivial⟩ rfl (Nat.le_add_right 1 2) ⟨rfl, rfl⟩
    show AM.Item.slc lockK (newL (xs.take k)) = _
    rw [List.take_of_length_le c1]
end Go.Proofs.Ytljokmmgkecjbaa

namespace Go.Proofs.Ytljokmmgkecjbaa
open Go Go.AM
noncomputable def rnewS (args : List AVal) (m : List AM.Item) (k : AVal → List AM.Item → Prop) : Prop := match args with
  | [.sc (.h t)] => match (nth m t .gone).row with
    | some ⟨K, xs⟩ => Cast (K1 := lockK) K xs fun xs => Need (xs.length ≤ 1048576) (snocK m (.slc lockK (newL xs)) fun m1 n1 => snocK m1 (.slc lockK []) fun m2 n2 => k (.agg [.h n1, .h n2]) m2)
    | none => False
  | _ => False
theorem rnewS_ok {args : List AVal} {m : List AM.Item} {k : AVal → List AM.Item → Prop} (h : rnewS args m k) : TripleF Try.prog 60 args m k := by
  unfold rnewS at h
  split at h
  · rename_i t
    split at h
    · rename_i K xs hrow
      obtain ⟨xs, _, hlen, h⟩ := h
      simp only [snocK_eq, List.length_append, List.length_singleton, List.append_assoc] at h
      have hg : nth m t .gone ≠ .gone := by intro e; rw [e] at hrow; cases hrow
      exact frame_add (m0 := [.ro lockK xs]) (extra := [.slc lockK (newL xs), .slc lockK []]) (rnew_base xs hlen) [t] rfl rfl ⟨⟨lockK, xs, hrow, rfl, rfl⟩, trivial⟩ rfl (by simp only [List.all_cons, List.all_nil, Bool.and_true, Nat.blt_eq]; exact nth_lt rfl hg) h
    · exact h.elim
  · exact h.elim
noncomputable def sp47 (f : FuncId) (args : List AVal) (m : List AM.Item) (k : AVal → List AM.Item → Prop) : Prop := match f with
  | 60 => rnewS args m k
  | f => sp46h f args m k
theorem sp47_ok : ∀ f args m k, sp47 f args m k → TripleF Try.prog f args m k := by
  intro f args m k h
  unfold sp47 at h
  split at h
  · exact rnewS_ok h
  · exact sp46h_ok _ _ _ _ h
noncomputable def E11 : Eng := mkEngX Try.prog kinds46b eqT qt46e sp47 noQ maps46 (fun _ _ _ => none) (fun _ => false)
theorem E11_ok : E11.Ok := mkEngX_ok mixedT qt46eok sp47_ok (fun _ _ _ _ _ h => by cases h) eqT_ok maps46_ok (fun _ _ _ _ h => by cases h)
set_option maxHeartbeats 4000000 in
theorem rules_base (xs : List Lk) : TripleF Try.prog 11 [.sc (.h 0)] [.ro lockK xs] (fun r _ => r = .sc (.bool true) ∧ r.below 0 = true) := by
  refine base_of_awp (R := fun r => r = .sc (.bool true)) E11_ok Try.func11 rfl (by kernel_rfl) ?_
  conv => whnf
  refine Know.mk fun hlen => ?_
  have hlen : xs.length ≤ 9223372036854775807 := hlen
  conv => whnf
  refine Br.mk (fun c1 => ?_) (fun c1 => ?_)
  · conv => whnf
  have hl20 : xs.length ≤ 20 := by
    have c1 : decide ((xs.length : Int) > 20) = false := c1
    simp at c1; omega
  conv => whnf
  refine Know.mk fun _ => ?_
  conv => whnf
  refine LoopF.inv Nat (fun k => k ≤ xs.length) (fun k => [(18, .sc (.int false .i64 (k : Int)))]) (fun k => xs.length - k) (fun _ => [AM.Item.ro lockK xs]) (fun _ => Nat.le_refl _) 0 []
    (Nat.zero_le _) ⟨⟨⟨rfl, rfl⟩, trivial⟩, ⟨rfl, trivial⟩, rfl⟩ ?_
  rintro k h1
  conv => whnf
  refine Br.mk (fun c2 => ?_) (fun c2 => ?_)
  · have hk := ltN c2
    refine Need.mk (show 0 ≤ (k : Int) ∧ (k : Int) < (xs.length : Nat) from ⟨by omega, by omega⟩) ?_
    conv => whnf
    refine Br.mk (fun c3 => ?_) (fun c3 => ?_)
    · conv => whnf
    · conv => whnf
      refine Br.mk (fun c4 => ?_) (fun c4 => ?_)
      · conv => whnf
      · conv => whnf
        exact ⟨k + 1, [], by omega, by omega, ⟨⟨⟨rfl, wrap_succ hk hlen⟩, trivial⟩, ⟨rfl, trivial⟩, rfl⟩, rfl⟩
  · conv => whnf
    refine Know.mk fun _ => ?_
    conv => whnf
    refine LoopF.inv Nat (fun i => i ≤ xs.length) (fun i => [(38, .sc (.int false .i64 (i : Int)))]) (fun i => xs.length - i) (fun _ => [AM.Item.ro lockK xs]) (fun _ => Nat.le_refl _) 0 []
      (Nat.zero_le _) ⟨⟨⟨rfl, rfl⟩, trivial⟩, ⟨rfl, trivial⟩, rfl⟩ ?_
    rintro i h2
    conv => whnf
    refine Br.mk (fun c3 => ?_) (fun c3 => ?_)
    · have hi := ltN c3
      refine Need.mk (show 0 ≤ (i : Int) ∧ (i : Int) < (xs.length : Nat) from ⟨by omega, by omega⟩) ?_
      conv => whnf
      generalize nth xs ((i : Int)).toNat lockK.d = X
      obtain ⟨Xu, Xi, Xlo, Xhi, Xe, Xx⟩ := X
      conv => whnf
      refine Know.mk fun _ => ?_
      conv => whnf
      refine LoopF.inv Nat (fun j => j ≤ xs.length) (fun j => [(44, .sc (.int false .i64 (j : Int)))]) (fun j => xs.length - j)
        (fun j => [.ro lockK xs, .box 58 (Lk.S ⟨Xu, Xi, Xlo, Xhi, Xe, Xx⟩)]) (fun _ => Nat.le_refl _) 0 []
        (Nat.zero_le _) ⟨⟨⟨rfl, rfl⟩, trivial⟩, ⟨rfl, ⟨rfl, rfl⟩, trivial⟩, rfl⟩ ?_
      rintro j h3
      conv => whnf
      refine Br.mk (fun c4 => ?_) (fun c4 => ?_)
      · have hj := ltN c4
        refine Need.mk (show 0 ≤ (j : Int) ∧ (j : Int) < (xs.length : Nat) from ⟨by omega, by omega⟩) ?_
        conv => whnf
        generalize nth xs ((j : Int)).toNat lockK.d = Y
        obtain ⟨Yu, Yi, Ylo, Yhi, Ye, Yx⟩ := Y
        conv => whnf
        refine Need.mk (by kernel_rfl) ?_
        conv => whnf
        refine Need.mk trivial ?_
        conv => whnf
        refine Need.mk trivial ?_
        conv => whnf
        refine Br.mk (fun c => ?_) (fun _ => ?_)
        · have c : (confL ⟨Xu, Xi, Xlo, Xhi, Xe, Xx⟩ ⟨Yu, Yi, Ylo, Yhi, Ye, Yx⟩ != confL ⟨Xu, Xi, Xlo, Xhi, Xe, Xx⟩ ⟨Yu, Yi, Ylo, Yhi, Ye, Yx⟩) = true := c
          simp at c
        conv => whnf
        exact ⟨j + 1, [], by omega, by omega, ⟨⟨⟨rfl, wrap_succ hj hlen⟩, trivial⟩, ⟨rfl, ⟨rfl, rfl⟩, trivial⟩, rfl⟩, rfl⟩
      · conv => whnf
        refine Need.mk (by kernel_rfl) ?_
        conv => whnf
        refine Need.mk trivial ?_
        conv => whnf
        refine Need.mk trivial ?_
        conv => whnf
        refine Br.mk (fun c => ?_) (fun _ => ?_)
        · have c : (validL ⟨Xu, Xi, Xlo, Xhi, Xe, Xx⟩ != validL ⟨Xu, Xi, Xlo, Xhi, Xe, Xx⟩) = true := c
          simp at c
        conv => whnf
        exact ⟨i + 1, [], by omega, by omega, ⟨⟨⟨rfl, wrap_succ hi hlen⟩, trivial⟩, ⟨rfl, trivial⟩, rfl⟩, rfl⟩
    · conv => whnf
      refine Cast.mk _ _ (Need.mk (by omega) ?_)
      conv => whnf
      have hnl := newL_le xs
      refine Need.mk (by decide) (Cast.mk _ _ (Cast.mk _ _ (Need.mk ⟨by omega, Nat.zero_le _⟩ ?_)))
      conv => whnf
      refine Cast.mk _ _ (Need.mk (by omega) ?_)
      conv => whnf
      refine Cast.mk _ _ ?_
      conv => whnf
      refine Cast.mk _ _ ?_
      conv => whnf
      refine Need.mk rfl ?_
      conv => whnf
      refine Br.mk (fun _ => ?_) (fun c => absurd (show true = false from c) (by decide))
      conv => whnf
      refine Know.mk fun _ => ?_
      conv => whnf
      refine Br.mk (fun _ => ?_) (fun c => absurd (show (((0 : Nat) : Int) == 0) = false from c) (by decide))
      conv => whnf
end Go.Proofs.Ytljokmmgkecjbaa

namespace Go.Proofs.Ytljokmmgkecjbaa
open Go Go.AM
/-! the reference's small functions -/
theorem of69_base (xs : List Lk) (unit : Int) (hb : xs.length ≤ 1048576) : TripleF Try.prog 69 [.sc (.h 0), .sc (.int false .i64 unit)] [.ro lockK xs] (fun r m' => r = .sc (.h 1) ∧ m' = [.ro lockK xs, .slc lockK (xs.filter (ofB unit))]) := by
  refine triple_of_awp E62_ok Try.func69 rfl (by kernel_rfl) ?_
  conv => whnf
  refine LoopF.inv Nat (fun k => k ≤ xs.length) (fun k => [(6, .sc (.int false .i64 (k : Int))), (5, .sc (.h 2))]) (fun k => xs.length - k) (fun k => [.ro lockK xs, .gone, .slc lockK ((xs.take k).filter (ofB unit))]) (fun _ => Nat.le_succ _) 0 [1]
    (Nat.zero_le _) ⟨⟨⟨rfl, rfl⟩, ⟨rfl, rfl⟩, trivial⟩, ⟨rfl, trivial, rfl, trivial⟩, rfl⟩ ?_
  rintro k h1
  conv => whnf
  refine Know.mk fun hlen => ?_
  have hlen : xs.length ≤ 9223372036854775807 := hlen
  conv => whnf
  refine Br.mk (fun c1 => ?_) (fun c1 => ?_)
  · have hk := ltN c1
    have hfs := filter_snoc (p := ofB unit) hk
    have hfl := filter_le (p := ofB unit) (xs := xs) (k := k)
    refine Need.mk (show 0 ≤ (k : Int) ∧ (k : Int) < (xs.length : Nat) from ⟨by omega, by omega⟩) ?_
    conv => whnf
    refine Br.mk (fun c2 => ?_) (fun c2 => ?_)
    · have c2 : ofB unit (nth xs k lk0) = true := c2
      rw [nth_eq] at c2
      rw [if_pos c2] at hfs
      conv => whnf
      refine Need.mk (show 0 ≤ (k : Int) ∧ (k : Int) < (xs.length : Nat) from ⟨by omega, by omega⟩) ?_
      conv => whnf
      refine Cast.mk _ _ ?_
      conv => whnf
      refine Need.mk ?_ ?_
      · show (((xs.take k).filter (ofB unit)).length + 1) * 64 ≤ 140737488355328
        omega
      conv => whnf
      refine ⟨k + 1, [4], by omega, by omega, ⟨⟨⟨rfl, wrap_succ hk hlen⟩, ⟨rfl, rfl⟩, trivial⟩, ⟨rfl, trivial, ?_, trivial⟩, rfl⟩, rfl⟩
      rw [hfs, ← nth_eq]; rfl
    · have c2 : ofB unit (nth xs k lk0) = false := c2
      rw [nth_eq] at c2
      rw [if_neg (by rw [c2]; simp), List.append_nil] at hfs
      conv => whnf
      refine ⟨k + 1, [2], by omega, by omega, ⟨⟨⟨rfl, wrap_succ hk hlen⟩, ⟨rfl, rfl⟩, trivial⟩, ⟨rfl, trivial, ?_, trivial⟩, rfl⟩, rfl⟩
      rw [hfs]; rfl
  · have c1 := geN c1
    conv => whnf
    have hkk : xs.take k = xs := List.take_of_length_le (by omega)
    exact FinF.mk _ (.sc (.h 1)) [.ro lockK xs, .slc lockK (xs.filter (ofB unit))] [2] rfl rfl rfl ⟨rfl, by show AM.Item.slc lockK ((xs.take k).filter (ofB unit)) = _; rw [hkk], trivial⟩ rfl (Nat.le_succ _) ⟨rfl, rfl⟩
theorem without_base (xs : List Lk) (unit : Int) (hb : xs.length ≤ 1048576) : TripleF Try.prog 103 [.sc (.h 0), .sc (.int false .i64 unit)] [.ro lockK xs] (fun r m' => r = .sc (.h 1) ∧ m' = [.ro lockK xs, .slc lockK (xs.filter (notB unit))]) := by
  refine triple_of_awp E62_ok Try.func103 rfl (by kernel_rfl) ?_
  conv => whnf
  refine LoopF.inv Nat (fun k => k ≤ xs.length) (fun k => [(6, .sc (.int false .i64 (k : Int))), (5, .sc (.h 2))]) (fun k => xs.length - k) (fun k => [.ro lockK xs, .gone, .slc lockK ((xs.take k).filter (notB unit))]) (fun _ => Nat.le_succ _) 0 [1]
    (Nat.zero_le _) ⟨⟨⟨rfl, rfl⟩, ⟨rfl, rfl⟩, trivial⟩, ⟨rfl, trivial, rfl, trivial⟩, rfl⟩ ?_
  rintro k h1
  conv => whnf
  refine Know.mk fun hlen => ?_
  have hlen : xs.length ≤ 9223372036854775807 := hlen
  conv => whnf
  refine Br.mk (fun c1 => ?_) (fun c1 => ?_)
  · have hk := ltN c1
    have hfs := filter_snoc (p := notB unit) hk
    have hfl := filter_le (p := notB unit) (xs := xs) (k := k)
    refine Need.mk (show 0 ≤ (k : Int) ∧ (k : Int) < (xs.length : Nat) from ⟨by omega, by omega⟩) ?_
    conv => whnf
    refine Br.mk (fun c2 => ?_) (fun c2 => ?_)
    · have c2 : notB unit (nth xs k lk0) = true := c2
      rw [nth_eq] at c2
      rw [if_pos c2] at hfs
      conv => whnf
      refine Need.mk (show 0 ≤ (k : Int) ∧ (k : Int) < (xs.length : Nat) from ⟨by omega, by omega⟩) ?_
      conv => whnf
      refine Cast.mk _ _ ?_
      conv => whnf
      refine Need.mk ?_ ?_
      · show (((xs.take k).filter (notB unit)).length + 1) * 64 ≤ 140737488355328
        omega
      conv => whnf
      refine ⟨k + 1, [4], by omega, by omega, ⟨⟨⟨rfl, wrap_succ hk hlen⟩, ⟨rfl, rfl⟩, trivial⟩, ⟨rfl, trivial, ?_, trivial⟩, rfl⟩, rfl⟩
      rw [hfs, ← nth_eq]; rfl
    · have c2 : notB unit (nth xs k lk0) = false := c2
      rw [nth_eq] at c2
      rw [if_neg (by rw [c2]; simp), List.append_nil] at hfs
      conv => whnf
      refine ⟨k + 1, [2], by omega, by omega, ⟨⟨⟨rfl, wrap_succ hk hlen⟩, ⟨rfl, rfl⟩, trivial⟩, ⟨rfl, trivial, ?_, trivial⟩, rfl⟩, rfl⟩
      rw [hfs]; rfl
  · have c1 := geN c1
    conv => whnf
    have hkk : xs.take k = xs := List.take_of_length_le (by omega)
    exact FinF.mk _ (.sc (.h 1)) [.ro lockK xs, .slc lockK (xs.filter (notB unit))] [2] rfl rfl rfl ⟨rfl, by show AM.Item.slc lockK ((xs.take k).filter (notB unit)) = _; rw [hkk], trivial⟩ rfl (Nat.le_succ _) ⟨rfl, rfl⟩
def hasB (xs : List Int) (n : Int) : Bool := xs.any (· == n)
theorem anyI_snoc {p : Int → Bool} {xs : List Int} {k : Nat} (hk : k < xs.length) : (xs.take (k + 1)).any p = ((xs.take k).any p || p (xs.getD k 0)) := by
  rw [List.take_succ_eq_append_getElem hk, List.any_append, List.getD_eq_getElem?_getD, List.getElem?_eq_getElem hk]; simp
theorem has_base (xs : List Int) (n : Int) : TripleF Try.prog 130 [.sc (.h 0), .sc (.int false .i64 n)] [.ro int55 xs] (fun r _ => r = .sc (.bool (hasB xs n)) ∧ r.below 0 = true) := by
  refine base_of_awp (R := fun r => r = .sc (.bool (hasB xs n))) E62_ok Try.func130 rfl (by kernel_rfl) ?_
  conv => whnf
  refine LoopF.inv Nat (fun k => k ≤ xs.length ∧ (xs.take k).any (· == n) = false) (fun k => [(5, .sc (.int false .i64 (k : Int)))]) (fun k => xs.length - k) (fun _ => [AM.Item.ro int55 xs]) (fun _ => Nat.le_refl _) 0 []
    ⟨Nat.zero_le _, rfl⟩ ⟨⟨⟨rfl, rfl⟩, trivial⟩, ⟨rfl, trivial⟩, rfl⟩ ?_
  rintro k ⟨h1, h2⟩
  conv => whnf
  refine Know.mk fun hlen => ?_
  have hlen : xs.length ≤ 9223372036854775807 := hlen
  conv => whnf
  refine Br.mk (fun c1 => ?_) (fun c1 => ?_)
  · have hk := ltN c1
    have hsn := anyI_snoc (p := (· == n)) hk
    refine Need.mk (show 0 ≤ (k : Int) ∧ (k : Int) < (xs.length : Nat) from ⟨by omega, by omega⟩) ?_
    conv => whnf
    refine Br.mk (fun c2 => ?_) (fun c2 => ?_)
    · have c2 : (nth xs k 0 == n) = true := c2
      rw [nth_eq] at c2
      conv => whnf
      have : hasB xs n = true := by
        refine List.any_eq_true.2 ⟨xs.getD k 0, ?_, c2⟩
        rw [List.getD_eq_getElem?_getD, List.getElem?_eq_getElem hk]; exact List.getElem_mem hk
      rw [this]
    · have c2 : (nth xs k 0 == n) = false := c2
      rw [nth_eq] at c2
      conv => whnf
      refine ⟨k + 1, [], ⟨by omega, by rw [hsn, h2, c2]; rfl⟩, by omega, ⟨⟨⟨rfl, wrap_succ hk hlen⟩, trivial⟩, ⟨rfl, trivial⟩, rfl⟩, rfl⟩
  · have c1 := geN c1
    rw [List.take_of_length_le c1] at h2
    conv => whnf
    have : hasB xs n = false := h2
    rw [this]
theorem rcovered_base (held queue : List Lk) (x : Lk) : TripleF Try.prog 105 [.agg [.h 0, .h 1], x.A] [.ro lockK held, .ro lockK queue] (fun r _ => r = .sc (.bool (held.any (covB x))) ∧ r.below 0 = true) := by
  refine base_of_awp (R := fun r => r = .sc (.bool (held.any (covB x)))) E96_ok Try.func105 rfl (by kernel_rfl) ?_
  obtain ⟨u, i, lo, hi, e, xx⟩ := x
  simp only [Lk.A]
  conv => whnf
  refine LoopF.inv Nat (fun k => k ≤ held.length ∧ (held.take k).any (covB ⟨u, i, lo, hi, e, xx⟩) = false) (fun k => [(5, .sc (.int false .i64 (k : Int)))]) (fun k => held.length - k)
    (fun _ => [.ro lockK held, .ro lockK queue, .box 76 [.h 0, .h 1], .box 58 (Lk.S ⟨u, i, lo, hi, e, xx⟩)]) (fun _ => Nat.le_refl _) 0 []
    ⟨Nat.zero_le _, rfl⟩ ⟨⟨⟨rfl, rfl⟩, trivial⟩, ⟨rfl, rfl, ⟨rfl, rfl⟩, ⟨rfl, rfl⟩, trivial⟩, rfl⟩ ?_
  rintro k ⟨h1, h2⟩
  conv => whnf
  refine Know.mk fun hlen => ?_
  have hlen : held.length ≤ 9223372036854775807 := hlen
  conv => whnf
  refine Br.mk (fun c1 => ?_) (fun c1 => ?_)
  · have hk := ltN c1
    have hsn := any_snoc (p := covB ⟨u, i, lo, hi, e, xx⟩) hk
    refine Need.mk (show 0 ≤ (k : Int) ∧ (k : Int) < (held.length : Nat) from ⟨by omega, by omega⟩) ?_
    conv => whnf
    rw [← nth_eq] at hsn
    have hyes : covB ⟨u, i, lo, hi, e, xx⟩ (nth held k lk0) = true → held.any (covB ⟨u, i, lo, hi, e, xx⟩) = true := fun c => by
      refine List.any_eq_true.2 ⟨nth held k lk0, ?_, c⟩
      rw [nth_eq, List.getD_eq_getElem?_getD, List.getElem?_eq_getElem hk]; exact List.getElem_mem hk
    generalize hY : nth held ((k : Int)).toNat lockK.d = Y
    have hY : nth held k lk0 = Y := hY
    rw [hY] at hsn hyes
    obtain ⟨Yu, Yi, Ylo, Yhi, Ye, Yx⟩ := Y
    conv => whnf
    have hcv : covB ⟨u, i, lo, hi, e, xx⟩ ⟨Yu, Yi, Ylo, Yhi, Ye, Yx⟩ = ((Yu == u) && (Yi == i) && (Yx || !xx) && coversB ⟨Ylo, Yhi, Ye⟩ ⟨lo, hi, e⟩) := rfl
    rw [hcv] at hsn hyes
    repeat' ((conv => whnf); first | refine Br.mk (fun _ => ?_) (fun _ => ?_))
    all_goals (try (conv => whnf))
    all_goals first
      | (refine ⟨k + 1, [], ⟨by omega, ?_⟩, by omega, ⟨⟨⟨rfl, wrap_succ hk hlen⟩, trivial⟩, ⟨rfl, rfl, ⟨rfl, rfl⟩, ⟨rfl, rfl⟩, trivial⟩, rfl⟩, rfl⟩; rw [hsn, h2]; clear hyes hsn hcv; simp_all)
      | (rw [hyes (by clear hyes hsn hcv; simp_all)])
  · have c1 := geN c1
    rw [List.take_of_length_le c1] at h2
    conv => whnf
    rw [h2]
end Go.Proofs.Ytljokmmgkecjbaa

namespace Go.Proofs.Ytljokmmgkecjbaa
open Go Go.AM
/-! the reference's Blocks -/
noncomputable def filtS (p : Int → Lk → Bool) (args : List AVal) (m : List AM.Item) (k : AVal → List AM.Item → Prop) : Prop := match args with
  | [.sc (.h t), .sc (.int _ .i64 u)] => match (nth m t .gone).row with
    | some ⟨K, xs⟩ => Cast (K1 := lockK) K xs fun xs => Need (xs.length ≤ 1048576) (snocK m (.slc lockK (xs.filter (p u))) fun m' n => k (.sc (.h n)) m')
    | none => False
  | _ => False
theorem filtS_ok {p : Int → Lk → Bool} {f : FuncId} (hT : ∀ (xs : List Lk) (u : Int), xs.length ≤ 1048576 → TripleF Try.prog f [.sc (.h 0), .sc (.int false .i64 u)] [.ro lockK xs] (fun r m' => r = .sc (.h 1) ∧ m' = [.ro lockK xs, .slc lockK (xs.filter (p u))]))
    {args : List AVal} {m : List AM.Item} {k : AVal → List AM.Item → Prop} (h : filtS p args m k) : TripleF Try.prog f args m k := by
  unfold filtS at h
  split at h
  · rename_i t _ u
    split at h
    · rename_i K xs hrow
      obtain ⟨xs, _, hlen, h⟩ := h
      rw [snocK_eq] at h
      have hg : nth m t .gone ≠ .gone := by intro e; rw [e] at hrow; cases hrow
      exact TripleF.std (frame_add (m0 := [.ro lockK xs]) (extra := [.slc lockK (xs.filter (p u))]) (hT xs u hlen) [t] rfl rfl ⟨⟨lockK, xs, hrow, rfl, rfl⟩, trivial⟩ rfl (by simp only [List.all_cons, List.all_nil, Bool.and_true, Nat.blt_eq]; exact nth_lt rfl hg) h)
    · exact h.elim
  · exact h.elim
noncomputable def sp47b (f : FuncId) (args : List AVal) (m : List AM.Item) (k : AVal → List AM.Item → Prop) : Prop := match f with
  | 69 => filtS ofB args m k
  | 103 => filtS notB args m k
  | _ => False
theorem sp47b_ok : ∀ f args m k, sp47b f args m k → TripleF Try.prog f args m k := by
  intro f args m k h
  unfold sp47b at h
  split at h
  · exact filtS_ok (fun xs u hx => of69_base xs u hx) h
  · exact filtS_ok (fun xs u hx => without_base xs u hx) h
  · exact h.elim
noncomputable def E106 : Eng := mkEng Try.prog kinds46b eqT qt46c sp47b qs46r
theorem E106_ok : E106.Ok := mkEng_ok mixedT qt46cok sp47b_ok qs46r_ok eqT_ok
def blkA (l : Lk) (xs : List Lk) : List Int := (xs.filter fun x => confL x l).map (·.u)
def blkB (l : Lk) (own xs : List Lk) : List Int := (xs.filter fun x => confL x l && !conflB own x).map (·.u)
def blocksL (held before : List Lk) (l : Lk) : List Int := blkA l held ++ blkB l (held.filter (ofB l.u)) before
theorem blkA_snoc {l : Lk} {xs : List Lk} {k : Nat} (hk : k < xs.length) : blkA l (xs.take (k + 1)) = blkA l (xs.take k) ++ (if confL (xs.getD k lk0) l = true then [(xs.getD k lk0).u] else []) := by
  unfold blkA
  rw [filter_snoc (p := fun x => confL x l) hk, List.map_append]
  split <;> rfl
theorem blkB_snoc {l : Lk} {own xs : List Lk} {k : Nat} (hk : k < xs.length) : blkB l own (xs.take (k + 1)) = blkB l own (xs.take k) ++ (if (confL (xs.getD k lk0) l && !conflB own (xs.getD k lk0)) = true then [(xs.getD k lk0).u] else []) := by
  unfold blkB
  rw [filter_snoc (p := fun x => confL x l && !conflB own x) hk, List.map_append]
  split <;> rfl
theorem blkA_len (l : Lk) (xs : List Lk) : (blkA l xs).length ≤ xs.length := by unfold blkA; rw [List.length_map]; exact List.length_filter_le _ _
theorem blkB_len (l : Lk) (own xs : List Lk) : (blkB l own xs).length ≤ xs.length := by unfold blkB; rw [List.length_map]; exact List.length_filter_le _ _
set_option maxHeartbeats 4000000 in
theorem blocks_base (held queue : List Lk) (l : Lk) (p : Nat) (hp : p ≤ queue.length) (hb : held.length ≤ 1048576) (hq : queue.length ≤ 1048576) :
    TripleF Try.prog 106 [.agg [.h 0, .h 1], l.A, .sc (.int false .i64 (p : Int))] [.ro lockK held, .ro lockK queue] (fun r m' => r = .sc (.h 2) ∧ m' = [.ro lockK held, .ro lockK queue, .slc int55 (blocksL held (queue.take p) l)]) := by
  refine triple_of_awp E106_ok Try.func106 rfl (by kernel_rfl) ?_
  obtain ⟨u, i, lo, hi, e, x⟩ := l
  simp only [Lk.A]
  conv => whnf
  refine Cast.mk _ _ (Need.mk hb ?_)
  conv => whnf
  refine LoopF.inv Nat (fun k => k ≤ held.length) (fun k => [(9, .sc (.int false .i64 (k : Int))), (7, .sc (.h 6))]) (fun k => held.length - k)
    (fun k => [.ro lockK held, .ro lockK queue, .box 76 [.h 0, .h 1], .box 58 (Lk.S ⟨u, i, lo, hi, e, x⟩), .gone, .slc lockK (held.filter (ofB u)), .slc int55 (blkA ⟨u, i, lo, hi, e, x⟩ (held.take k))]) (fun _ => Nat.le_succ _) 0 [4]
    (Nat.zero_le _) ⟨⟨⟨rfl, rfl⟩, ⟨rfl, rfl⟩, trivial⟩, ⟨rfl, rfl, ⟨rfl, rfl⟩, ⟨rfl, rfl⟩, trivial, rfl, rfl, trivial⟩, rfl⟩ ?_
  rintro k h1
  have hsA : k < held.length → blkA ⟨u, i, lo, hi, e, x⟩ (held.take (k + 1)) = _ := blkA_snoc
  have hlA := blkA_len ⟨u, i, lo, hi, e, x⟩ (held.take k)
  rw [List.length_take] at hlA
  have hwA : held.length ≤ k → blkA ⟨u, i, lo, hi, e, x⟩ (held.take k) = blkA ⟨u, i, lo, hi, e, x⟩ held := fun h => by rw [List.take_of_length_le h]
  generalize blkA ⟨u, i, lo, hi, e, x⟩ (held.take k) = out at hsA hlA hwA
  conv => whnf
  refine Know.mk fun hlen => ?_
  have hlen : held.length ≤ 9223372036854775807 := hlen
  conv => whnf
  refine Br.mk (fun c1 => ?_) (fun c1 => ?_)
  · have hk := ltN c1
    have hsA := hsA hk
    conv => whnf
    refine Need.mk (by kernel_rfl) ?_
    conv => whnf
    refine Need.mk (show 0 ≤ (k : Int) ∧ (k : Int) < (held.length : Nat) from ⟨by omega, by omega⟩) ?_
    conv => whnf
    refine Need.mk trivial ?_
    conv => whnf
    refine Br.mk (fun c2 => ?_) (fun c2 => ?_)
    · have c2 : confL (nth held k lk0) ⟨u, i, lo, hi, e, x⟩ = true := c2
      rw [nth_eq] at c2
      rw [if_pos c2] at hsA
      conv => whnf
      refine Need.mk (show 0 ≤ (k : Int) ∧ (k : Int) < (held.length : Nat) from ⟨by omega, by omega⟩) ?_
      conv => whnf
      refine Cast.mk _ _ ?_
      conv => whnf
      refine Need.mk (show (out.length + 1) * 8 ≤ 140737488355328 from by omega) ?_
      conv => whnf
      refine ⟨k + 1, [8], by omega, by omega, ⟨⟨⟨rfl, wrap_succ hk hlen⟩, ⟨rfl, rfl⟩, trivial⟩, ⟨rfl, rfl, ⟨rfl, rfl⟩, ⟨rfl, rfl⟩, trivial, rfl, ?_, trivial⟩, rfl⟩, rfl⟩
      rw [hsA, ← nth_eq]; rfl
    · have c2 : confL (nth held k lk0) ⟨u, i, lo, hi, e, x⟩ = false := c2
      rw [nth_eq] at c2
      rw [if_neg (by rw [c2]; simp), List.append_nil] at hsA
      conv => whnf
      refine ⟨k + 1, [6], by omega, by omega, ⟨⟨⟨rfl, wrap_succ hk hlen⟩, ⟨rfl, rfl⟩, trivial⟩, ⟨rfl, rfl, ⟨rfl, rfl⟩, ⟨rfl, rfl⟩, trivial, rfl, ?_, trivial⟩, rfl⟩, rfl⟩
      rw [hsA]; rfl
  · have hk := geN c1
    have hwA := hwA hk
    subst hwA
    conv => whnf
    refine LoopF.inv Nat (fun j => j ≤ p) (fun j => [(10, .sc (.int false .i64 (j : Int))), (7, .sc (.h 7))]) (fun j => p - j)
      (fun j => [.ro lockK held, .ro lockK queue, .box 76 [.h 0, .h 1], .box 58 (Lk.S ⟨u, i, lo, hi, e, x⟩), .gone, .slc lockK (held.filter (ofB u)), .gone, .slc int55 (blkA ⟨u, i, lo, hi, e, x⟩ held ++ blkB ⟨u, i, lo, hi, e, x⟩ (held.filter (ofB u)) (queue.take j))]) (fun _ => Nat.le_succ _) 0 [6]
      (Nat.zero_le _) ⟨⟨⟨rfl, rfl⟩, ⟨rfl, rfl⟩, trivial⟩, ⟨rfl, rfl, ⟨rfl, rfl⟩, ⟨rfl, rfl⟩, trivial, rfl, trivial, ?_, trivial⟩, rfl⟩ ?_
    · show AM.Item.slc int55 (blkA ⟨u, i, lo, hi, e, x⟩ held) = .slc int55 (blkA ⟨u, i, lo, hi, e, x⟩ held ++ [])
      rw [List.append_nil]
    rintro j h2
    have hlA2 := blkA_len ⟨u, i, lo, hi, e, x⟩ held
    have hlB := blkB_len ⟨u, i, lo, hi, e, x⟩ (held.filter (ofB u)) (queue.take j)
    rw [List.length_take] at hlB
    conv => whnf
    refine Br.mk (fun c3 => ?_) (fun c3 => ?_)
    · have hj := ltN c3
      have hsB := blkB_snoc (l := ⟨u, i, lo, hi, e, x⟩) (own := held.filter (ofB u)) (xs := queue) (k := j) (by omega)
      conv => whnf
      refine Know.mk fun hlq => ?_
      have hlq : queue.length ≤ 9223372036854775807 := hlq
      conv => whnf
      refine Br.mk (fun c4 => ?_) (fun c4 => absurd (geN c4) (by omega))
      conv => whnf
      refine Need.mk (by kernel_rfl) ?_
      conv => whnf
      refine Need.mk (show 0 ≤ (j : Int) ∧ (j : Int) < (queue.length : Nat) from ⟨by omega, by omega⟩) ?_
      conv => whnf
      refine Need.mk trivial ?_
      conv => whnf
      refine Br.mk (fun c5 => ?_) (fun c5 => ?_)
      · have c5 : confL (nth queue j lk0) ⟨u, i, lo, hi, e, x⟩ = true := c5
        rw [nth_eq] at c5
        conv => whnf
        refine Need.mk (show 0 ≤ (j : Int) ∧ (j : Int) < (queue.length : Nat) from ⟨by omega, by omega⟩) ?_
        conv => whnf
        refine Need.mk rfl ?_
        conv => whnf
        refine Br.mk (fun c6 => ?_) (fun c6 => ?_)
        · have c6 : (!conflB (castL lockK (held.filter (ofB u))) (nth queue j lk0)) = true := c6
          rw [castL_eq, nth_eq] at c6
          rw [if_pos (by rw [c5, c6]; rfl)] at hsB
          conv => whnf
          refine Need.mk (show 0 ≤ (j : Int) ∧ (j : Int) < (queue.length : Nat) from ⟨by omega, by omega⟩) ?_
          conv => whnf
          refine Cast.mk _ _ ?_
          conv => whnf
          refine Need.mk (show ((blkA ⟨u, i, lo, hi, e, x⟩ held ++ blkB ⟨u, i, lo, hi, e, x⟩ (held.filter (ofB u)) (queue.take j)).length + 1) * 8 ≤ 140737488355328 from by rw [List.length_append]; omega) ?_
          conv => whnf
          refine ⟨j + 1, [9], by omega, by omega, ⟨⟨⟨rfl, wrap_succ hj (by omega)⟩, ⟨rfl, rfl⟩, trivial⟩, ⟨rfl, rfl, ⟨rfl, rfl⟩, ⟨rfl, rfl⟩, trivial, rfl, trivial, ?_, trivial⟩, rfl⟩, rfl⟩
          rw [hsB, ← List.append_assoc, ← nth_eq]; rfl
        · have c6 : (!conflB (castL lockK (held.filter (ofB u))) (nth queue j lk0)) = false := c6
          rw [castL_eq, nth_eq] at c6
          rw [if_neg (by rw [c5, c6]; simp), List.append_nil] at hsB
          conv => whnf
          refine ⟨j + 1, [7], by omega, by omega, ⟨⟨⟨rfl, wrap_succ hj (by omega)⟩, ⟨rfl, rfl⟩, trivial⟩, ⟨rfl, rfl, ⟨rfl, rfl⟩, ⟨rfl, rfl⟩, trivial, rfl, trivial, ?_, trivial⟩, rfl⟩, rfl⟩
          rw [hsB]; rfl
      · have c5 : confL (nth queue j lk0) ⟨u, i, lo, hi, e, x⟩ = false := c5
        rw [nth_eq] at c5
        rw [if_neg (by rw [c5]; simp), List.append_nil] at hsB
        conv => whnf
        refine ⟨j + 1, [7], by omega, by omega, ⟨⟨⟨rfl, wrap_succ hj (by omega)⟩, ⟨rfl, rfl⟩, trivial⟩, ⟨rfl, rfl, ⟨rfl, rfl⟩, ⟨rfl, rfl⟩, trivial, rfl, trivial, ?_, trivial⟩, rfl⟩, rfl⟩
        rw [hsB]; rfl
    · have hj := geN c3
      conv => whnf
      refine FinF.mk _ (.sc (.h 2)) [.ro lockK held, .ro lockK queue, .slc int55 (blocksL held (queue.take p) ⟨u, i, lo, hi, e, x⟩)] [7] rfl rfl rfl ⟨rfl, rfl, ?_, trivial⟩ rfl (Nat.le_succ _) ⟨rfl, rfl⟩
      have : j = p := by omega
      subst this; rfl
end Go.Proofs.Ytljokmmgkecjbaa

namespace Go.Proofs.Ytljokmmgkecjbaa
open Go Go.AM
theorem memb_snd (a b : Nat) : memb b [a, b] = true := by
  simp only [memb]
  cases Nat.beq b a <;> simp
noncomputable def es106 (args : List AVal) (m : List AM.Item) : Option Eff := match args with
  | [.agg [.h a, .h b], x, .sc (.int _ .i64 n)] => match lkOf x with
    | some l => match (nth m a .gone).row, (nth m b .gone).row with
      | some ⟨K1, xs⟩, some ⟨K2, ys⟩ => some ⟨K1 = lockK ∧ K2 = lockK ∧ 0 ≤ n ∧ n.toNat ≤ ys.length ∧ xs.length ≤ 1048576 ∧ ys.length ≤ 1048576, [a, b], [], some (.slc int55 (blocksL (castL K1 xs) ((castL K2 ys).take n.toNat) l)), .sc (.h 0)⟩
      | _, _ => none
    | none => none
  | _ => none
theorem es106_ok {args : List AVal} {m : List AM.Item} {e : Eff} (h : es106 args m = some e) (hn : e.need) : EffOk Try.prog 106 args m e := by
  unfold es106 at h
  split at h
  · rename_i a b x q n
    split at h
    · rename_i l hl
      split at h
      · rename_i K1 xs K2 ys ha hb
        cases h
        obtain ⟨rfl, rfl, hn0, hnl, hx, hy⟩ := hn
        obtain ⟨p, rfl⟩ : ∃ p : Nat, n = p := ⟨n.toNat, by omega⟩
        rw [Int.toNat_natCast] at hnl
        have ga : nth m a .gone ≠ .gone := by intro e; rw [e] at ha; cases ha
        have gb : nth m b .gone ≠ .gone := by intro e; rw [e] at hb; cases hb
        have la := nth_lt rfl ga
        have lb := nth_lt rfl gb
        intro m2 hm2 hag
        refine TripleF.arg (pre := [.agg [.h a, .h b]]) (post := [.sc (.int q .i64 p)]) (fun env v => lkOf_rep hl) ?_
        refine TripleF.std ?_
        exact eff_add (need := True) (rd := [a, b]) (blocks_base xs ys l p hnl hx hy) [a, b] rfl rfl (fun m2 hag => ⟨⟨lockK, xs, by rw [hag a (by simp [memb])]; exact ha, rfl, rfl⟩, ⟨lockK, ys, by rw [hag b (memb_snd a b)]; exact hb, rfl, rfl⟩, trivial⟩)
          (by simp [apartP, apart1, Item.own]) (by simp [Nat.blt_eq, la, lb]) (fun n => by rw [castL_eq, castL_eq, Int.toNat_natCast]; rfl) (fun n => rfl) m2 hm2 hag
      · cases h
    · cases h
  · cases h
noncomputable def es47 (f : FuncId) (args : List AVal) (m : List AM.Item) : Option Eff := match f with
  | 106 => es106 args m
  | _ => none
theorem es47_ok : ∀ f args m e, es47 f args m = some e → e.need → EffOk Try.prog f args m e := by
  intro f args m e h hn
  unfold es47 at h
  split at h
  · exact es106_ok h hn
  · cases h
def effs47 (f : FuncId) : Bool := match f with
  | 106 => true
  | _ => false
noncomputable def E71 : Eng := mkEngX Try.prog kinds46b eqT qt46c sp47b qs46r maps46 es47 effs47
theorem E71_ok : E71.Ok := mkEngX_ok mixedT qt46cok sp47b_ok qs46r_ok eqT_ok maps46_ok es47_ok
def rwaitL (held queue : List Lk) (unit : Int) : List Int := if queue.any (ofB unit) = true then blocksL held (queue.take (queue.findIdx (ofB unit))) (queue.getD (queue.findIdx (ofB unit)) lk0) else []
theorem find_at {p : Lk → Bool} {xs : List Lk} {k : Nat} (hk : k < xs.length) (h1 : (xs.take k).any p = false) (h2 : p (xs.getD k lk0) = true) : xs.findIdx p = k ∧ xs.any p = true := by
  rw [List.getD_eq_getElem?_getD, List.getElem?_eq_getElem hk] at h2
  have h2 : p xs[k] = true := h2
  refine ⟨?_, List.any_eq_true.2 ⟨xs[k], List.getElem_mem hk, h2⟩⟩
  refine (List.findIdx_eq hk).2 ⟨h2, fun j hj => ?_⟩
  rw [List.any_eq_false] at h1
  have := h1 (xs[j]'(by omega)) (List.mem_take_iff_getElem.2 ⟨j, by omega, rfl⟩)
  simpa using this
theorem rblockers_base (held queue : List Lk) (unit : Int) (hb : held.length ≤ 1048576) (hq : queue.length ≤ 1048576) :
    TripleF Try.prog 71 [.agg [.h 0, .h 1], .sc (.int false .i64 unit)] [.ro lockK held, .ro lockK queue] (fun r m' => r = .sc (.h 2) ∧ m' = [.ro lockK held, .ro lockK queue, .slc int55 (rwaitL held queue unit)]) := by
  refine triple_of_awp E71_ok Try.func71 rfl (by kernel_rfl) ?_
  conv => whnf
  refine LoopF.inv Nat (fun k => k ≤ queue.length ∧ (queue.take k).any (ofB unit) = false) (fun k => [(5, .sc (.int false .i64 (k : Int)))]) (fun k => queue.length - k)
    (fun k => [.ro lockK held, .ro lockK queue, .box 76 [.h 0, .h 1]]) (fun _ => Nat.le_refl _) 0 []
    ⟨Nat.zero_le _, rfl⟩ ⟨⟨⟨rfl, rfl⟩, trivial⟩, ⟨rfl, rfl, ⟨rfl, rfl⟩, trivial⟩, rfl⟩ ?_
  rintro k ⟨h1, h2⟩
  conv => whnf
  refine Know.mk fun hlen => ?_
  have hlen : queue.length ≤ 9223372036854775807 := hlen
  conv => whnf
  refine Br.mk (fun c1 => ?_) (fun c1 => ?_)
  · have hk := ltN c1
    have hsn := any_snoc (p := ofB unit) hk
    refine Need.mk (show 0 ≤ (k : Int) ∧ (k : Int) < (queue.length : Nat) from ⟨by omega, by omega⟩) ?_
    conv => whnf
    refine Br.mk (fun c2 => ?_) (fun c2 => ?_)
    · have c2 : ofB unit (nth queue k lk0) = true := c2
      rw [nth_eq] at c2
      obtain ⟨hf, hany⟩ := find_at hk h2 c2
      conv => whnf
      refine Need.mk (show 0 ≤ (k : Int) ∧ (k : Int) < (queue.length : Nat) from ⟨by omega, by omega⟩) ?_
      conv => whnf
      refine Need.mk (show lockK = lockK ∧ lockK = lockK ∧ 0 ≤ (k : Int) ∧ (k : Int).toNat ≤ queue.length ∧ held.length ≤ 1048576 ∧ queue.length ≤ 1048576 from ⟨rfl, rfl, by omega, by omega, hb, hq⟩) ?_
      conv => whnf
      refine Need.mk (by kernel_rfl) ?_
      conv => whnf
      refine FinF.mk _ (.sc (.h 2)) [.ro lockK held, .ro lockK queue, .slc int55 (rwaitL held queue unit)] [3] rfl rfl rfl ⟨rfl, rfl, ?_, trivial⟩ rfl (Nat.le_succ _) ⟨rfl, rfl⟩
      show AM.Item.slc int55 (blocksL (castL lockK held) ((castL lockK queue).take (k : Int).toNat) (nth queue (k : Int).toNat lk0)) = _
      rw [castL_eq, castL_eq, Int.toNat_natCast, nth_eq, rwaitL, if_pos hany, hf]
    · have c2 : ofB unit (nth queue k lk0) = false := c2
      rw [nth_eq] at c2
      conv => whnf
      refine ⟨k + 1, [], ⟨by omega, by rw [hsn, h2, c2]; rfl⟩, by omega, ⟨⟨⟨rfl, wrap_succ hk hlen⟩, trivial⟩, ⟨rfl, rfl, ⟨rfl, rfl⟩, trivial⟩, rfl⟩, rfl⟩
  · have c1 := geN c1
    rw [List.take_of_length_le c1] at h2
    conv => whnf
    refine FinF.tell (.nilT 4 int55) _ _ (And.intro rfl rfl) ?_
    refine FinF.mk _ (.sc (.h 2)) [.ro lockK held, .ro lockK queue, .slc int55 (rwaitL held queue unit)] [3] rfl rfl rfl ⟨rfl, rfl, ?_, trivial⟩ rfl (Nat.le_succ _) ⟨rfl, rfl⟩
    rw [rwaitL, h2]; rfl
end Go.Proofs.Ytljokmmgkecjbaa

namespace Go.Proofs.Ytljokmmgkecjbaa
open Go Go.AM
noncomputable def es71 (args : List AVal) (m : List AM.Item) : Option Eff := match args with
  | [.agg [.h a, .h b], .sc (.int _ .i64 n)] => match (nth m a .gone).row, (nth m b .gone).row with
      | some ⟨K1, xs⟩, some ⟨K2, ys⟩ => some ⟨K1 = lockK ∧ K2 = lockK ∧ xs.length ≤ 1048576 ∧ ys.length ≤ 1048576, [a, b], [], some (.slc int55 (rwaitL (castL K1 xs) (castL K2 ys) n)), .sc (.h 0)⟩
      | _, _ => none
  | _ => none
theorem es71_ok {args : List AVal} {m : List AM.Item} {e : Eff} (h : es71 args m = some e) (hn : e.need) : EffOk Try.prog 71 args m e := by
  unfold es71 at h
  split at h
  · rename_i a b q n
    split at h
    · rename_i K1 xs K2 ys ha hb
      cases h
      obtain ⟨rfl, rfl, hx, hy⟩ := hn
      have ga : nth m a .gone ≠ .gone := by intro e; rw [e] at ha; cases ha
      have gb : nth m b .gone ≠ .gone := by intro e; rw [e] at hb; cases hb
      have la := nth_lt rfl ga
      have lb := nth_lt rfl gb
      intro m2 hm2 hag
      refine TripleF.std ?_
      exact eff_add (need := True) (rd := [a, b]) (rblockers_base xs ys n hx hy) [a, b] rfl rfl (fun m2 hag => ⟨⟨lockK, xs, by rw [hag a (by simp [memb])]; exact ha, rfl, rfl⟩, ⟨lockK, ys, by rw [hag b (memb_snd a b)]; exact hb, rfl, rfl⟩, trivial⟩)
        (by simp [apartP, apart1, Item.own]) (by simp [Nat.blt_eq, la, lb]) (fun n => by rw [castL_eq, castL_eq]; rfl) (fun n => rfl) m2 hm2 hag
    · cases h
  · cases h
noncomputable def es47b (f : FuncId) (args : List AVal) (m : List AM.Item) : Option Eff := match f with
  | 71 => es71 args m
  | _ => none
theorem es47b_ok : ∀ f args m e, es47b f args m = some e → e.need → EffOk Try.prog f args m e := by
  intro f args m e h hn
  unfold es47b at h
  split at h
  · exact es71_ok h hn
  · cases h
def effs47b (f : FuncId) : Bool := match f with
  | 71 => true
  | _ => false
def hasS (args : List AVal) (m : List AM.Item) (k : AVal → List AM.Item → Prop) : Prop := match args with
  | [.sc (.h t), .sc (.int _ .i64 n)] => rowS m t int55 (fun xs => .sc (.bool (hasB xs n))) k
  | _ => False
theorem hasS_ok {args : List AVal} {m : List AM.Item} {k : AVal → List AM.Item → Prop} (h : hasS args m k) : TripleF Try.prog 130 args m k := by
  unfold hasS at h
  split at h
  · rename_i t _ n
    obtain ⟨xs, hk, hf⟩ := rowS_fit h
    exact TripleF.std (frame_ro2 (has_base xs n) [t] rfl rfl hf fun r hr => hr ▸ hk)
  · exact h.elim
def sp47c (f : FuncId) (args : List AVal) (m : List AM.Item) (k : AVal → List AM.Item → Prop) : Prop := match f with
  | 130 => hasS args m k
  | _ => False
theorem sp47c_ok : ∀ f args m k, sp47c f args m k → TripleF Try.prog f args m k := by
  intro f args m k h
  unfold sp47c at h
  split at h
  · exact hasS_ok h
  · exact h.elim
noncomputable def E107 : Eng := mkEngX Try.prog kinds46b eqT qt46c sp47c noQ maps46 es47b effs47b
theorem E107_ok : E107.Ok := mkEngX_ok mixedT qt46cok sp47c_ok (fun _ _ _ _ _ h => by cases h) eqT_ok maps46_ok es47b_ok
/-! the reference's edges are the manager's -/
theorem blocks_mem (held before : List Lk) (l : Lk) (k : Int) : k ∈ blocksL held before l ↔ k ∈ keysM (blkM held before l) := by
  rw [keys_blk, blocksL, List.mem_append, blkA, blkB, List.mem_map, List.mem_map]
  constructor
  · rintro (⟨x, hx, rfl⟩ | ⟨x, hx, rfl⟩)
    · have := List.mem_filter.1 hx
      exact .inl ⟨x, this.1, this.2, rfl⟩
    · have := List.mem_filter.1 hx
      exact .inr ⟨x, this.1, this.2, rfl⟩
  · rintro (⟨x, hx, h, rfl⟩ | ⟨x, hx, h, rfl⟩)
    · exact .inl ⟨x, List.mem_filter.2 ⟨hx, h⟩, rfl⟩
    · exact .inr ⟨x, List.mem_filter.2 ⟨hx, h⟩, rfl⟩
theorem rwait_mem (held queue : List Lk) (a b : Int) : b ∈ rwaitL held queue a ↔ edge held queue a b := by
  unfold rwaitL edge waitM
  split
  · exact blocks_mem _ _ _ _
  · simp [keysM]
theorem blocks_len (held before : List Lk) (l : Lk) : (blocksL held before l).length ≤ held.length + before.length := by
  rw [blocksL, List.length_append]
  have := blkA_len l held
  have := blkB_len l (held.filter (ofB l.u)) before
  omega
theorem rwait_len (held queue : List Lk) (u : Int) : (rwaitL held queue u).length ≤ held.length + queue.length := by
  unfold rwaitL
  split
  · refine Nat.le_trans (blocks_len _ _ _) ?_
    rw [List.length_take]; omega
  · simp
noncomputable def rreachB (held queue : List Lk) (from_ : List Int) (unit : Int) : Bool := reachB held queue (from_.map fun k => (k, true)) unit
def cntN (U S : List Int) : Nat := (U.filter fun x => !hasB S x).length
theorem has_iff {S : List Int} {n : Int} : hasB S n = true ↔ n ∈ S := by simp [hasB]
theorem cntN_snoc {U S : List Int} {b : Int} (hb : b ∈ U) (hS : hasB S b = false) : cntN U (S ++ [b]) + 1 ≤ cntN U S := by
  have key : ∀ V : List Int, (V.filter fun x => !hasB (S ++ [b]) x).length ≤ (V.filter fun x => !hasB S x).length := fun V => by
    induction V with
    | nil => simp
    | cons v V ih =>
      simp only [List.filter_cons]
      have : hasB (S ++ [b]) v = (hasB S v || (b == v)) := by simp [hasB]
      rw [this]
      cases hasB S v <;> cases (b == v) <;> simp <;> omega
  unfold cntN
  induction U with
  | nil => cases hb
  | cons u U ih =>
    simp only [List.filter_cons]
    have hh : hasB (S ++ [b]) u = (hasB S u || (b == u)) := by simp [hasB]
    by_cases hu : u = b
    · subst hu
      rw [hh, hS]
      have := key U
      simp; omega
    · have := ih (by simpa [Ne.symm hu] using hb)
      have hne : (b == u) = false := by simpa using Ne.symm hu
      rw [hh, hne]
      cases hasB S u <;> simp <;> omega
theorem getD_mem {S : List Int} {i : Nat} (hi : i < S.length) : S.getD i 0 ∈ S := by
  rw [List.getD_eq_getElem?_getD, List.getElem?_eq_getElem hi]; exact List.getElem_mem hi
structure BfS where
  i : Nat
  S : List Int
structure BfJ (held queue : List Lk) (from_ : List Int) (unit : Int) (s : BfS) : Prop where
  le : s.i ≤ s.S.length
  sub : ∀ k ∈ from_, k ∈ s.S
  snd : ∀ k ∈ s.S, ∃ f ∈ from_, Reach held queue f k
  done : ∀ j, j < s.i → s.S.getD j 0 ≠ unit ∧ ∀ b, edge held queue (s.S.getD j 0) b → b ∈ s.S
  len : cntN (unitsL held queue) s.S + s.S.length ≤ cntN (unitsL held queue) from_ + from_.length
theorem Reach.snoc {held queue : List Lk} {a b c : Int} (h : Reach held queue a b) (e : edge held queue b c) : Reach held queue a c := by
  induction h with
  | refl n => exact .step e (.refl _)
  | step h1 _ ih => exact .step h1 (ih e)
set_option maxHeartbeats 4000000 in
theorem rreaches_base (held queue : List Lk) (from_ : List Int) (unit : Int) (hb : held.length ≤ 1048576) (hq : queue.length ≤ 1048576) (hf : from_.length ≤ 4194304) :
    TripleF Try.prog 107 [.agg [.h 0, .h 1], .sc (.h 2), .sc (.int false .i64 unit)] [.ro lockK held, .ro lockK queue, .ro int55 from_] (fun r _ => r = .sc (.bool (rreachB held queue from_ unit)) ∧ r.below 0 = true) := by
  refine base_of_awp (R := fun r => r = .sc (.bool (rreachB held queue from_ unit))) E107_ok Try.func107 rfl (by kernel_rfl) ?_
  have hUl : (unitsL held queue).length = held.length + queue.length := by simp [unitsL]
  have hcl : ∀ S, cntN (unitsL held queue) S ≤ (unitsL held queue).length := fun S => List.length_filter_le _ _
  have hc0 := hcl from_
  conv => whnf
  refine Cast.mk _ _ ?_
  conv => whnf
  refine Need.mk (show (0 + from_.length) * 8 ≤ 140737488355328 from by omega) ?_
  conv => whnf
  refine LoopF.inv BfS (BfJ held queue from_ unit) (fun s => [(8, .sc (.int false .i64 (s.i : Int))), (7, .sc (.h 6))]) (fun s => cntN (unitsL held queue) s.S + s.S.length - s.i)
    (fun s => [.ro lockK held, .ro lockK queue, .ro int55 from_, .box 76 [.h 0, .h 1], .gone, .gone, .slc int55 s.S]) (fun _ => Nat.le_succ _) ⟨0, from_⟩ [5]
    ⟨Nat.zero_le _, fun k hk => hk, fun k hk => ⟨k, hk, .refl _⟩, fun j hj => absurd hj (Nat.not_lt_zero _), Nat.le_refl _⟩ ⟨⟨⟨rfl, rfl⟩, ⟨rfl, rfl⟩, trivial⟩, ⟨rfl, rfl, rfl, ⟨rfl, rfl⟩, trivial, trivial, ?_, trivial⟩, rfl⟩ ?_
  · rfl
  rintro ⟨i, S⟩ ⟨J1, J2, J3, J4, J5⟩
  simp only at J1 J2 J3 J4 J5
  conv => whnf
  refine Know.mk fun hlen => ?_
  have hlen : S.length ≤ 9223372036854775807 := hlen
  conv => whnf
  refine Br.mk (fun c1 => ?_) (fun c1 => ?_)
  · have hi : i < S.length := ltN c1
    refine Need.mk (show 0 ≤ (i : Int) ∧ (i : Int) < (S.length : Nat) from ⟨by omega, by omega⟩) ?_
    conv => whnf
    refine Br.mk (fun c2 => ?_) (fun c2 => ?_)
    · have c2 : (nth S i 0 == unit) = true := c2
      rw [nth_eq, beq_iff_eq] at c2
      conv => whnf
      have hyes : rreachB held queue from_ unit = true := by
        obtain ⟨f, hf1, hf2⟩ := J3 _ (getD_mem hi)
        rw [c2] at hf2
        exact reach_yes.2 ⟨f, by simpa [keysM] using hf1, hf2⟩
      rw [hyes]
    · have c2 : (nth S i 0 == unit) = false := c2
      rw [nth_eq, beq_eq_false_iff_ne] at c2
      conv => whnf
      refine Need.mk (show 0 ≤ (i : Int) ∧ (i : Int) < (S.length : Nat) from ⟨by omega, by omega⟩) ?_
      conv => whnf
      refine Need.mk (show lockK = lockK ∧ lockK = lockK ∧ held.length ≤ 1048576 ∧ queue.length ≤ 1048576 from ⟨rfl, rfl, hb, hq⟩) ?_
      conv => whnf
      refine Need.mk (by kernel_rfl) ?_
      conv => whnf
      have hL : rwaitL (castL lockK held) (castL lockK queue) (nth S i 0) = rwaitL held queue (S.getD i 0) := by rw [castL_eq, castL_eq, nth_eq]
      generalize hl : rwaitL (castL lockK held) (castL lockK queue) (nth S i 0) = l at hL
      have hlw := rwait_len held queue (S.getD i 0)
      rw [← hL] at hlw
      have hedge : ∀ b, b ∈ l ↔ edge held queue (S.getD i 0) b := fun b => by rw [hL]; exact rwait_mem _ _ _ _
      refine LoopF.inv BfS (fun s => s.i ≤ l.length ∧ (∀ k ∈ S, k ∈ s.S) ∧ (∃ T, s.S = S ++ T) ∧ (∀ k ∈ s.S, ∃ f ∈ from_, Reach held queue f k) ∧ (∀ j, j < s.i → l.getD j 0 ∈ s.S) ∧ cntN (unitsL held queue) s.S + s.S.length ≤ cntN (unitsL held queue) S + S.length)
        (fun s => [(10, .sc (.int false .i64 (s.i : Int))), (7, .sc (.h 8))]) (fun s => l.length - s.i)
        (fun s => [.ro lockK held, .ro lockK queue, .ro int55 from_, .box 76 [.h 0, .h 1], .gone, .gone, .gone, .slc int55 l, .slc int55 s.S]) (fun _ => Nat.le_succ _) ⟨0, S⟩ [6]
        ⟨Nat.zero_le _, fun k hk => hk, ⟨[], by simp⟩, J3, fun j hj => absurd hj (Nat.not_lt_zero _), Nat.le_refl _⟩ ⟨⟨⟨rfl, rfl⟩, ⟨rfl, rfl⟩, trivial⟩, ⟨rfl, rfl, rfl, ⟨rfl, rfl⟩, trivial, trivial, trivial, ?_, rfl, trivial⟩, rfl⟩ ?_
      · rw [← hl]; rfl
      rintro ⟨k, S'⟩ ⟨L1, L2, ⟨T, L3⟩, L4, L5, L6⟩
      simp only at L1 L2 L3 L4 L5 L6
      have hcS := hcl S'
      conv => whnf
      refine Know.mk fun hll => ?_
      have hll : l.length ≤ 9223372036854775807 := hll
      conv => whnf
      refine Br.mk (fun c3 => ?_) (fun c3 => ?_)
      · have hk : k < l.length := ltN c3
        refine Need.mk (show 0 ≤ (k : Int) ∧ (k : Int) < (l.length : Nat) from ⟨by omega, by omega⟩) ?_
        conv => whnf
        refine Cast.mk _ _ ?_
        conv => whnf
        refine Br.mk (fun c4 => ?_) (fun c4 => ?_)
        · have c4 : (!hasB S' (nth l k 0)) = true := c4
          rw [nth_eq] at c4
          have c4 : hasB S' (l.getD k 0) = false := by simpa using c4
          have he : edge held queue (S.getD i 0) (l.getD k 0) := (hedge _).1 (getD_mem hk)
          conv => whnf
          refine Need.mk (show 0 ≤ (k : Int) ∧ (k : Int) < (l.length : Nat) from ⟨by omega, by omega⟩) ?_
          conv => whnf
          refine Cast.mk _ _ ?_
          conv => whnf
          refine Need.mk (show (S'.length + 1) * 8 ≤ 140737488355328 from by omega) ?_
          conv => whnf
          have hsn := cntN_snoc (edge_units he) c4
          refine ⟨⟨k + 1, S' ++ [l.getD k 0]⟩, [10], ⟨hk, fun x hx => List.mem_append.2 (.inl (L2 x hx)), ⟨T ++ [l.getD k 0], by rw [L3]; simp⟩, fun x hx => ?_, fun j hj => ?_, ?_⟩, by simp only; omega, ⟨⟨⟨rfl, wrap_succ hk hll⟩, ⟨rfl, rfl⟩, trivial⟩, ⟨rfl, rfl, rfl, ⟨rfl, rfl⟩, trivial, trivial, trivial, rfl, ?_, trivial⟩, rfl⟩, rfl⟩
          · rcases List.mem_append.1 hx with hx | hx
            · exact L4 x hx
            · simp at hx; subst hx
              obtain ⟨f, hf1, hf2⟩ := J3 _ (getD_mem hi)
              exact ⟨f, hf1, hf2.snoc he⟩
          · simp only
            rcases Nat.lt_succ_iff_lt_or_eq.1 hj with h | rfl
            · exact List.mem_append.2 (.inl (L5 j h))
            · simp
          · simp only [List.length_append, List.length_singleton]; omega
          · show AM.Item.slc int55 (S' ++ [nth l k 0]) = _
            rw [nth_eq]
        · have c4 : (!hasB S' (nth l k 0)) = false := c4
          rw [nth_eq] at c4
          have c4 : hasB S' (l.getD k 0) = true := by simpa using c4
          conv => whnf
          refine ⟨⟨k + 1, S'⟩, [8], ⟨hk, L2, ⟨T, L3⟩, L4, fun j hj => ?_, L6⟩, by simp only; omega, ⟨⟨⟨rfl, wrap_succ hk hll⟩, ⟨rfl, rfl⟩, trivial⟩, ⟨rfl, rfl, rfl, ⟨rfl, rfl⟩, trivial, trivial, trivial, rfl, rfl, trivial⟩, rfl⟩, rfl⟩
          simp only
          rcases Nat.lt_succ_iff_lt_or_eq.1 hj with h | rfl
          · exact L5 j h
          · exact has_iff.1 c4
      · have hk : l.length ≤ k := geN c3
        conv => whnf
        have hSl : S'.length = S.length + T.length := by rw [L3]; simp
        have hget : ∀ j, j < S.length → S'.getD j 0 = S.getD j 0 := fun j hj => by
          rw [L3, List.getD_eq_getElem?_getD, List.getD_eq_getElem?_getD, List.getElem?_append_left hj]
        refine ⟨⟨i + 1, S'⟩, [8], ⟨by simp only; omega, fun x hx => L2 x (J2 x hx), L4, fun j hj => ?_, by simp only; omega⟩, by simp only; omega, ⟨⟨⟨rfl, wrap_succ hi hlen⟩, ⟨rfl, rfl⟩, trivial⟩, ⟨rfl, rfl, rfl, ⟨rfl, rfl⟩, trivial, trivial, rfl, trivial⟩, rfl⟩, rfl⟩
        simp only
        rcases Nat.lt_succ_iff_lt_or_eq.1 hj with h | rfl
        · rw [hget j (by omega)]
          exact ⟨(J4 j h).1, fun b hb => L2 b ((J4 j h).2 b hb)⟩
        · rw [hget _ hi]
          refine ⟨c2, fun b hb => ?_⟩
          obtain ⟨j, hj, rfl⟩ := List.mem_iff_getElem.1 ((hedge b).2 hb)
          have := L5 j (by omega)
          rwa [List.getD_eq_getElem?_getD, List.getElem?_eq_getElem hj] at this
  · have hi : S.length ≤ i := geN c1
    conv => whnf
    have hno : rreachB held queue from_ unit = false := by
      refine reach_no ?_
      rintro ⟨k, hk, hr⟩
      have hk : k ∈ from_ := by simpa [keysM] using hk
      have key : ∀ a b, Reach held queue a b → a ∈ S → b ≠ unit := fun a b hr => by
        induction hr with
        | refl n =>
          intro hn
          obtain ⟨j, hj, rfl⟩ := List.mem_iff_getElem.1 hn
          have := (J4 j (by omega)).1
          rwa [List.getD_eq_getElem?_getD, List.getElem?_eq_getElem hj] at this
        | step he _ ih =>
          intro hn
          obtain ⟨j, hj, rfl⟩ := List.mem_iff_getElem.1 hn
          have := (J4 j (by omega)).2
          rw [List.getD_eq_getElem?_getD, List.getElem?_eq_getElem hj] at this
          exact ih (this _ he)
      exact key _ _ hr (J2 k hk) rfl
    rw [hno]
end Go.Proofs.Ytljokmmgkecjbaa
