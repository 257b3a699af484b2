/- For every input the law LockRules returns true, and each argument reads as before; no further condition. -/
import Derived.Test.YtljokmmgkecjbaaQh
import Derived.Test.YtljokmmgkecjbaaRows
import Derived.Test.YtljokmmgkecjbaaQf
set_option linter.unusedVariables false
set_option linter.unusedSimpArgs false
set_option maxRecDepth 100000
namespace Go.Proofs.Ytljokmmgkecjbaa
open Go Go.AM
theorem conf_comm (a b : Lk) : confL a b = confL b a := by
  unfold confL
  rw [meet_comm a.rg b.rg]
  have h1 : (a.u != b.u) = (b.u != a.u) := bne_comm
  have h2 : (a.i == b.i) = (b.i == a.i) := BEq.comm
  rw [h1, h2, Bool.or_comm a.x b.x]
theorem eqL_refl (a : Lk) : eqL a a = true := by
  simp [eqL, sEq]
/-- a new unit that holds nothing and does not wait -/
theorem order_law {held queue : List Lk} {x : Lk} (hv : validL x = true) (hh : held.filter (ofB x.u) = []) (hq : queue.any (ofB x.u) = false) :
    ((held ++ queue).all (fun y => !confL x y) = true → (reqL held queue x).1 = 0) ∧
    ((held ++ queue).all (fun y => !confL x y) = false → reqL held queue x = (15, held, queue ++ [x]) ∧ reqL held (queue ++ [x]) x = (15, held, queue ++ [x])) := by
  have hcov : held.any (covB x) = false := by
    rw [List.any_eq_false]
    intro y hy hc
    have hu : y.u = x.u := by
      simp only [covB, Bool.and_eq_true, beq_iff_eq] at hc
      exact hc.1.1.1
    have : y ∈ held.filter (ofB x.u) := List.mem_filter.2 ⟨hy, by simpa [ofB] using hu⟩
    rw [hh] at this; cases this
  have hreq : reqL held queue x = askL held queue x := req_new hv hcov hq
  have hconf : ∀ b, conflB (held.filter (ofB x.u)) b = false := fun b => by rw [hh]; rfl
  refine ⟨fun hf => ?_, fun hf => ?_⟩
  · rw [List.all_eq_true] at hf
    have he : (blkM held queue x).isEmpty = true := by
      cases hz : blkM held queue x with
      | nil => rfl
      | cons p t =>
        have : p.1 ∈ keysM (blkM held queue x) := by rw [hz]; simp [keysM]
        rw [keys_blk] at this
        rcases this with ⟨y, hy, hc, _⟩ | ⟨y, hy, hc, _⟩
        · have := hf y (by simp [hy])
          rw [conf_comm, hc] at this; cases this
        · have := hf y (by simp [hy])
          simp only [Bool.and_eq_true] at hc
          rw [conf_comm, hc.1] at this; cases this
    rw [hreq, ask_free he]
  · have hex : ∃ y ∈ held ++ queue, confL y x = true := by
      rw [List.all_eq_false] at hf
      obtain ⟨y, hy, hc⟩ := hf
      exact ⟨y, hy, by rw [conf_comm]; simpa using hc⟩
    obtain ⟨y, hy, hc⟩ := hex
    have hk : y.u ∈ keysM (blkM held queue x) := by
      rw [keys_blk]
      rcases List.mem_append.1 hy with h | h
      · exact .inl ⟨y, h, hc, rfl⟩
      · exact .inr ⟨y, h, by rw [hc, hconf]; rfl, rfl⟩
    have he : (blkM held queue x).isEmpty = false := by
      cases hz : blkM held queue x with
      | nil => rw [hz] at hk; cases hk
      | cons _ _ => rfl
    have hnu : x.u ∉ unitsL held queue := fun h => by
      obtain ⟨z, hz, hzu⟩ := List.mem_map.1 h
      rcases List.mem_append.1 hz with h | h
      · have : z ∈ held.filter (ofB x.u) := List.mem_filter.2 ⟨h, by simpa [ofB] using hzu⟩
        rw [hh] at this; cases this
      · rw [List.any_eq_false] at hq
        exact hq z h (by simpa [ofB] using hzu)
    have hr : reachB held queue (blkM held queue x) x.u = false := by
      refine reach_no ?_
      rintro ⟨k, hk, hre⟩
      have key : ∀ a b, Reach held queue a b → a ∈ unitsL held queue → b ∈ unitsL held queue := fun a b hre => by
        induction hre with
        | refl n => exact id
        | step h _ ih => exact fun _ => ih (edge_units h)
      exact hnu (key _ _ hre (blk_units (fun _ h => h) hk))
    have h1 : reqL held queue x = (15, held, queue ++ [x]) := by
      rw [hreq]; simp only [askL, he, hr]
    refine ⟨h1, ?_⟩
    have hany : (queue ++ [x]).any (ofB x.u) = true := by simp [ofB]
    have hidx : (queue ++ [x]).findIdx (ofB x.u) = queue.length := by
      rw [List.findIdx_append, if_neg]
      · simp [List.findIdx_cons, ofB]
      · rw [List.findIdx_lt_length]
        rintro ⟨z, hz, hb⟩
        rw [List.any_eq_false] at hq
        exact hq z hz hb
    have hget : (queue ++ [x]).getD queue.length lk0 = x := by
      rw [List.getD_eq_getElem?_getD, List.getElem?_append_right (Nat.le_refl _), Nat.sub_self]; rfl
    simp only [reqL, hv, hcov, hany, hidx, hget, eqL_refl]
set_option maxHeartbeats 2000000 in
theorem order_base (acts : List Ac) (x : Lk) (hb : (1 + acts.length) * 72 ≤ 140737488355328) : TripleF Try.prog 13 [.sc (.h 0), x.A] [.ro actK acts] (fun r _ => r = .sc (.bool true) ∧ r.below 0 = true) := by
  refine base_of_awp (R := fun r => r = .sc (.bool true)) E16_ok Try.func13 rfl (by kernel_rfl) ?_
  obtain ⟨xu, xi, xlo, xhi, xe, xx⟩ := x
  simp only [Lk.A]
  conv => whnf
  refine Cast.mk _ _ ?_
  conv => whnf
  refine Need.mk hb ?_
  conv => whnf
  refine Cast.mk _ _ ?_
  conv => whnf
  refine Br.mk (fun c1 => ?_) (fun c1 => ?_)
  · conv => whnf
  have c1 : fewA ([⟨0, ⟨xu, xi, xlo, xhi, xe, xx⟩⟩] ++ acts) 51 = true := by
    have c1 : (!fewA ([⟨0, ⟨xu, xi, xlo, xhi, xe, xx⟩⟩] ++ acts) 51) = false := c1
    simpa using c1
  have hl51 := few_len c1
  have hl50 : acts.length ≤ 50 := by simp at hl51; omega
  conv => whnf
  refine Cast.mk _ _ (Need.mk (by omega) ?_)
  conv => whnf
  have hpl := play_len acts
  refine Need.mk (by decide) (Cast.mk _ _ (Cast.mk _ _ (Need.mk ⟨by omega, by omega⟩ ?_)))
  generalize hH : (playL acts).1 = H at hpl ⊢
  generalize hQ : (playL acts).2 = Q at hpl ⊢
  conv => whnf
  refine Br.mk (fun c2 => ?_) (fun c2 => ?_)
  · conv => whnf
  have hv : validL ⟨1073741824, xi, xlo, xhi, xe, xx⟩ = true := by
    have c2 : (!validL ⟨1073741824, xi, xlo, xhi, xe, xx⟩) = false := c2
    simpa using c2
  conv => whnf
  refine Need.mk (by decide) (Cast.mk _ _ (Cast.mk _ _ (Need.mk (by omega) ?_)))
  conv => whnf
  refine Know.mk fun _ => ?_
  conv => whnf
  refine Br.mk (fun c3 => ?_) (fun c3 => ?_)
  · conv => whnf
  have hh : H.filter (ofB 1073741824) = [] := by
    have c3 : decide (((H.filter (ofB 1073741824)).length : Int) > 0) = false := c3
    simp at c3
    exact List.eq_nil_iff_forall_not_mem.2 fun y hy => by
      have := List.mem_filter.1 hy
      exact absurd this.2 (by simpa using c3 y this.1)
  conv => whnf
  refine Cast.mk _ _ ?_
  conv => whnf
  refine Need.mk (show (H.length + Q.length) * 64 ≤ 140737488355328 from by omega) ?_
  conv => whnf
  refine Know.mk fun hlen => ?_
  conv => whnf
  have hlen : (H ++ Q).length ≤ 9223372036854775807 := hlen
  refine LoopF.inv Nat (fun i => i ≤ (H ++ Q).length) (fun i => [(48, .sc (.int false .i64 (i : Int))), (8, .sc (.bool (((H ++ Q).take i).all fun y => !confL ⟨1073741824, xi, xlo, xhi, xe, xx⟩ y)))]) (fun i => (H ++ Q).length - i)
    (fun i => [.ro actK acts, .box 58 [.int true .i64 1073741824, .int false .i64 xi, .str xlo, .str xhi, .bool xe, .bool xx], .gone, .gone, .box 112 [.h 5, .h 6], .slc lockK H, .slc lockK Q, .gone, .slc lockK Q, .gone, .slc lockK (H ++ Q)]) (fun _ => Nat.le_refl _) 0 []
    (Nat.zero_le _) ⟨⟨⟨rfl, rfl⟩, ⟨rfl, rfl⟩, trivial⟩, ⟨rfl, ⟨rfl, rfl⟩, trivial, trivial, ⟨rfl, rfl⟩, rfl, rfl, trivial, rfl, trivial, rfl, trivial⟩, rfl⟩ ?_
  rintro i h1
  have hsn : i < (H ++ Q).length → ((H ++ Q).take (i + 1)).all (fun y => !confL ⟨1073741824, xi, xlo, xhi, xe, xx⟩ y) = _ := fun h => all_snoc (p := fun y => !confL ⟨1073741824, xi, xlo, xhi, xe, xx⟩ y) (d := lk0) h
  have hwhole : (H ++ Q).length ≤ i → ((H ++ Q).take i).all (fun y => !confL ⟨1073741824, xi, xlo, xhi, xe, xx⟩ y) = (H ++ Q).all (fun y => !confL ⟨1073741824, xi, xlo, xhi, xe, xx⟩ y) := fun h => by rw [List.take_of_length_le h]
  generalize ((H ++ Q).take i).all (fun y => !confL ⟨1073741824, xi, xlo, xhi, xe, xx⟩ y) = b at hsn hwhole
  conv => whnf
  refine Br.mk (fun c4 => ?_) (fun c4 => ?_)
  · have hi := ltN c4
    have hsn := hsn hi
    conv => whnf
    refine Need.mk (show 0 ≤ (i : Int) ∧ (i : Int) < ((H ++ Q).length : Nat) from ⟨by omega, by omega⟩) ?_
    conv => whnf
    refine Br.mk (fun c5 => ?_) (fun c5 => ?_)
    · have c5 : b = true := c5
      conv => whnf
      refine ⟨i + 1, [], by omega, by omega, ⟨⟨⟨rfl, wrap_succ hi hlen⟩, ⟨rfl, ?_⟩, trivial⟩, ⟨rfl, ⟨rfl, rfl⟩, trivial, trivial, ⟨rfl, rfl⟩, rfl, rfl, trivial, rfl, trivial, rfl, trivial⟩, rfl⟩, rfl⟩
      show AVal.sc (.bool (!confL ⟨1073741824, xi, xlo, xhi, xe, xx⟩ (nth (H ++ Q) i lk0))) = .sc (.bool (((H ++ Q).take (i + 1)).all (fun y => !confL ⟨1073741824, xi, xlo, xhi, xe, xx⟩ y)))
      rw [hsn, c5, Bool.true_and, nth_eq]
    · have c5 : b = false := c5
      conv => whnf
      refine ⟨i + 1, [], by omega, by omega, ⟨⟨⟨rfl, wrap_succ hi hlen⟩, ⟨rfl, ?_⟩, trivial⟩, ⟨rfl, ⟨rfl, rfl⟩, trivial, trivial, ⟨rfl, rfl⟩, rfl, rfl, trivial, rfl, trivial, rfl, trivial⟩, rfl⟩, rfl⟩
      show AVal.sc (.bool false) = .sc (.bool (((H ++ Q).take (i + 1)).all (fun y => !confL ⟨1073741824, xi, xlo, xhi, xe, xx⟩ y)))
      rw [hsn, c5, Bool.false_and]
  · have hi := geN c4
    have hwhole := hwhole hi
    conv => whnf
    refine Know.mk fun hlq => ?_
    have hlq : Q.length ≤ 9223372036854775807 := hlq
    conv => whnf
    refine LoopF.inv Nat (fun j => j ≤ Q.length ∧ (Q.take j).any (ofB 1073741824) = false) (fun j => [(62, .sc (.int false .i64 (j : Int)))]) (fun j => Q.length - j)
      (fun j => [.ro actK acts, .box 58 [.int true .i64 1073741824, .int false .i64 xi, .str xlo, .str xhi, .bool xe, .bool xx], .gone, .gone, .box 112 [.h 5, .h 6], .slc lockK H, .slc lockK Q, .gone, .slc lockK Q, .gone, .gone]) (fun _ => Nat.le_refl _) 0 []
      ⟨Nat.zero_le _, rfl⟩ ⟨⟨⟨rfl, rfl⟩, trivial⟩, ⟨rfl, ⟨rfl, rfl⟩, trivial, trivial, ⟨rfl, rfl⟩, rfl, rfl, trivial, rfl, trivial, trivial, trivial⟩, rfl⟩ ?_
    rintro j ⟨h2, h3⟩
    conv => whnf
    refine Br.mk (fun c5 => ?_) (fun c5 => ?_)
    · have hj := ltN c5
      have hsj := any_snoc (p := ofB 1073741824) hj
      conv => whnf
      refine Need.mk (show 0 ≤ (j : Int) ∧ (j : Int) < (Q.length : Nat) from ⟨by omega, by omega⟩) ?_
      conv => whnf
      refine Br.mk (fun c6 => ?_) (fun c6 => ?_)
      · conv => whnf
      · have c6 : ofB 1073741824 (nth Q j lk0) = false := c6
        rw [nth_eq] at c6
        conv => whnf
        refine ⟨j + 1, [], ⟨by omega, ?_⟩, by omega, ⟨⟨⟨rfl, wrap_succ hj hlq⟩, trivial⟩, ⟨rfl, ⟨rfl, rfl⟩, trivial, trivial, ⟨rfl, rfl⟩, rfl, rfl, trivial, rfl, trivial, trivial, trivial⟩, rfl⟩, rfl⟩
        rw [hsj, h3, c6]; rfl
    · have hj := geN c5
      rw [List.take_of_length_le hj] at h3
      obtain ⟨law1, law2⟩ := order_law hv hh h3
      rw [← hwhole] at law1 law2
      conv => whnf
      refine Need.mk (show 5 ≠ 6 by decide) (Cast.mk _ _ (Cast.mk _ _ (Need.mk (by omega) ?_)))
      conv => whnf
      refine Br.mk (fun c7 => ?_) (fun c7 => ?_)
      · have c7 : b = true := c7
        have l1 := law1 c7
        conv => whnf
        refine Br.mk (fun _ => ?_) (fun c => absurd (show ((reqL H Q ⟨1073741824, xi, xlo, xhi, xe, xx⟩).1 == 0) = false from c) (by rw [l1]; decide))
        conv => whnf
      · have c7 : b = false := c7
        obtain ⟨l1, l2⟩ := law2 c7
        conv => whnf
        refine Br.mk (fun _ => ?_) (fun c => absurd (show ((reqL H Q ⟨1073741824, xi, xlo, xhi, xe, xx⟩).1 == 15) = false from c) (by rw [l1]; show ¬ (((15 : Int) == 15) = false); decide))
        conv => whnf
        refine Need.mk (by decide) (Cast.mk _ _ (Cast.mk _ _ (Need.mk ?_ ?_)))
        · show (reqL H Q ⟨1073741824, xi, xlo, xhi, xe, xx⟩).2.1.length + (reqL H Q ⟨1073741824, xi, xlo, xhi, xe, xx⟩).2.2.length < 1048576
          rw [l1]; simp; omega
        conv => whnf
        have l3 : (reqL (reqL H Q ⟨1073741824, xi, xlo, xhi, xe, xx⟩).2.1 (reqL H Q ⟨1073741824, xi, xlo, xhi, xe, xx⟩).2.2 ⟨1073741824, xi, xlo, xhi, xe, xx⟩).1 = 15 := by rw [l1, l2]
        refine Br.mk (fun _ => ?_) (fun c => absurd (show ((reqL (reqL H Q ⟨1073741824, xi, xlo, xhi, xe, xx⟩).2.1 (reqL H Q ⟨1073741824, xi, xlo, xhi, xe, xx⟩).2.2 ⟨1073741824, xi, xlo, xhi, xe, xx⟩).1 == 15) = false from c) (by rw [l3]; decide))
        conv => whnf
end Go.Proofs.Ytljokmmgkecjbaa

namespace Go.Proofs.Ytljokmmgkecjbaa
open Go Go.AM
/-! equal lists are told equal -/
noncomputable def E59 : Eng := mkEng Try.prog kinds46b eqT noQT noSpec noQ
theorem E59_ok : E59.Ok := mkEng_ok mixedT (fun _ _ _ _ h => by cases h) (fun _ _ _ _ h => h.elim) (fun _ _ _ _ _ h => by cases h) eqT_ok
theorem locks_base (xs : List Lk) : TripleF Try.prog 59 [.sc (.h 0), .sc (.h 1)] [.ro lockK xs, .ro lockK xs] (fun r _ => r = .sc (.bool true) ∧ r.below 0 = true) := by
  refine base_of_awp (R := fun r => r = .sc (.bool true)) E59_ok Try.func59 rfl (by kernel_rfl) ?_
  conv => whnf
  refine Know.mk fun hlen => ?_
  have hlen : xs.length ≤ 9223372036854775807 := hlen
  conv => whnf
  refine Know.mk fun _ => ?_
  conv => whnf
  refine Br.mk (fun c => ?_) (fun _ => ?_)
  · have c : ((xs.length : Int) != (xs.length : Int)) = true := c
    simp at c
  conv => whnf
  refine LoopF.inv Nat (fun k => k ≤ xs.length) (fun k => [(5, .sc (.int false .i64 (k : Int)))]) (fun k => xs.length - k) (fun _ => [AM.Item.ro lockK xs, AM.Item.ro lockK xs]) (fun _ => Nat.le_refl _) 0 []
    (Nat.zero_le _) ⟨⟨⟨rfl, rfl⟩, trivial⟩, ⟨rfl, rfl, trivial⟩, rfl⟩ ?_
  rintro k h1
  conv => whnf
  refine Know.mk fun _ => ?_
  conv => whnf
  refine Br.mk (fun c1 => ?_) (fun c1 => ?_)
  · have hk := ltN c1
    conv => whnf
    refine Need.mk (by kernel_rfl) ?_
    conv => whnf
    refine Need.mk (show 0 ≤ (k : Int) ∧ (k : Int) < (xs.length : Nat) from ⟨by omega, by omega⟩) ?_
    conv => whnf
    refine Need.mk (show 0 ≤ (k : Int) ∧ (k : Int) < (xs.length : Nat) from ⟨by omega, by omega⟩) ?_
    conv => whnf
    refine Br.mk (fun c => ?_) (fun _ => ?_)
    · have c : (!eqL (nth xs k lk0) (nth xs k lk0)) = true := c
      rw [eqL_refl] at c; cases c
    conv => whnf
    exact ⟨k + 1, [], by omega, by omega, ⟨⟨⟨rfl, wrap_succ hk hlen⟩, trivial⟩, ⟨rfl, rfl, trivial⟩, rfl⟩, rfl⟩
  · conv => whnf
theorem ints_base (xs : List Int) : TripleF Try.prog 65 [.sc (.h 0), .sc (.h 1)] [.ro int55 xs, .ro int55 xs] (fun r _ => r = .sc (.bool true) ∧ r.below 0 = true) := by
  refine base_of_awp (R := fun r => r = .sc (.bool true)) E59_ok Try.func65 rfl (by kernel_rfl) ?_
  conv => whnf
  refine Know.mk fun hlen => ?_
  have hlen : xs.length ≤ 9223372036854775807 := hlen
  conv => whnf
  refine Know.mk fun _ => ?_
  conv => whnf
  refine Br.mk (fun c => ?_) (fun _ => ?_)
  · have c : ((xs.length : Int) != (xs.length : Int)) = true := c
    simp at c
  conv => whnf
  refine LoopF.inv Nat (fun k => k ≤ xs.length) (fun k => [(5, .sc (.int false .i64 (k : Int)))]) (fun k => xs.length - k) (fun _ => [AM.Item.ro int55 xs, AM.Item.ro int55 xs]) (fun _ => Nat.le_refl _) 0 []
    (Nat.zero_le _) ⟨⟨⟨rfl, rfl⟩, trivial⟩, ⟨rfl, rfl, trivial⟩, rfl⟩ ?_
  rintro k h1
  conv => whnf
  refine Know.mk fun _ => ?_
  conv => whnf
  refine Br.mk (fun c1 => ?_) (fun c1 => ?_)
  · have hk := ltN c1
    conv => whnf
    refine Need.mk (by kernel_rfl) ?_
    conv => whnf
    refine Need.mk (show 0 ≤ (k : Int) ∧ (k : Int) < (xs.length : Nat) from ⟨by omega, by omega⟩) ?_
    conv => whnf
    refine Need.mk (show 0 ≤ (k : Int) ∧ (k : Int) < (xs.length : Nat) from ⟨by omega, by omega⟩) ?_
    conv => whnf
    refine Br.mk (fun c => ?_) (fun _ => ?_)
    · have c : (nth xs k 0 != nth xs k 0) = true := c
      simp at c
    conv => whnf
    exact ⟨k + 1, [], by omega, by omega, ⟨⟨⟨rfl, wrap_succ hk hlen⟩, trivial⟩, ⟨rfl, rfl, trivial⟩, rfl⟩, rfl⟩
  · conv => whnf
def eqS (K0 : Kind) (args : List AVal) (m : List AM.Item) (k : AVal → List AM.Item → Prop) : Prop := match args with
  | [.sc (.h a), .sc (.h b)] => match (nth m a .gone).row, (nth m b .gone).row with
    | some ⟨K1, xs⟩, some ⟨K2, ys⟩ => Cast (K1 := K0) K1 xs fun xs => Cast (K1 := K0) K2 ys fun ys => Need (xs = ys) (k (.sc (.bool true)) m)
    | _, _ => False
  | _ => False
theorem eqS_ok {K0 : Kind} {f : FuncId} (hT : ∀ xs : List K0.T, TripleF Try.prog f [.sc (.h 0), .sc (.h 1)] [.ro K0 xs, .ro K0 xs] (fun r _ => r = .sc (.bool true) ∧ r.below 0 = true)) {args : List AVal} {m : List AM.Item} {k : AVal → List AM.Item → Prop} (h : eqS K0 args m k) : TripleF Try.prog f args m k := by
  unfold eqS at h
  split at h
  · rename_i a b
    split at h
    · rename_i K1 xs K2 ys ha hb
      obtain ⟨xs, _, ys, _, rfl, h⟩ := h
      exact frame_ro2 (hT xs) [a, b] rfl rfl ⟨⟨K0, xs, ha, rfl, rfl⟩, ⟨K0, xs, hb, rfl, rfl⟩, trivial⟩ fun r hr => hr ▸ h
    · exact h.elim
  · exact h.elim
end Go.Proofs.Ytljokmmgkecjbaa

namespace Go.Proofs.Ytljokmmgkecjbaa
open Go Go.AM
/-! asking again -/
theorem covers_self (r : Rng) : coversB r r = true := by
  obtain ⟨lo, hi, e⟩ := r
  unfold coversB
  cases e <;> simp [sLess_irrefl]
theorem req_cov {held queue : List Lk} {l : Lk} (hv : validL l = true) (hc : held.any (covB l) = true) : reqL held queue l = (0, held, queue) := by
  simp only [reqL, hv, hc]
theorem again1 {held queue : List Lk} (h : WF held queue) {x : Lk} (hx : x ∈ held) : reqL held queue x = (0, held, queue) := by
  refine req_cov (h.vh x hx) (List.any_eq_true.2 ⟨x, hx, ?_⟩)
  simp [covB, covers_self]
def partL (x : Lk) : Lk := ⟨x.u, x.i, x.lo, x.lo, false, false⟩
theorem again2 {held queue : List Lk} (h : WF held queue) {x : Lk} (hx : x ∈ held) : reqL held queue (partL x) = (0, held, queue) := by
  have hv := h.vh x hx
  have hp := valid_parts hv
  have hv2 : validL (partL x) = true := by
    simp only [validL, partL, Lk.rg, emptyB, sLess_irrefl, Bool.and_true, Bool.not_false, Bool.and_eq_true, Bool.not_eq_true'] at hv ⊢
    obtain ⟨⟨⟨⟨a, b⟩, c⟩, d⟩, e⟩ := hv
    exact ⟨⟨⟨⟨a, b⟩, c⟩, c⟩, rfl⟩
  refine req_cov hv2 (List.any_eq_true.2 ⟨x, hx, ?_⟩)
  have he := hp.2.2.2.2
  obtain ⟨u, i, lo, hi, e, xx⟩ := x
  simp only [covB, partL, Lk.rg, coversB, emptyB, sLess_irrefl, beq_self_eq_true, Bool.not_false, Bool.or_true, Bool.true_and, Bool.and_true, Bool.false_or] at he ⊢
  cases e
  · simpa using he
  · simp
noncomputable def canR (s : List Lk × List Lk) (x : Lk) : List Lk × List Lk := ((grantL s.1 [] (s.2.filter (notB x.u))).1, (grantL s.1 [] (s.2.filter (notB x.u))).2.1)
noncomputable def canF (l : List Lk) (s : List Lk × List Lk) : List Lk × List Lk := l.foldl canR s
theorem can_wf : ∀ (l : List Lk) (s : List Lk × List Lk), WF s.1 s.2 → WF (canF l s).1 (canF l s).2
  | [], _, h => h
  | x :: l, s, h => can_wf l _ (grant_wf _ _ _ (by simpa using h.filterQ _))
theorem can_len : ∀ (l : List Lk) (s : List Lk × List Lk), (canF l s).1.length + (canF l s).2.length ≤ s.1.length + s.2.length
  | [], _ => Nat.le_refl _
  | x :: l, s => by
    refine Nat.le_trans (can_len l (canR s x)) ?_
    have h1 := grantL_len s.1 [] (s.2.filter (notB x.u))
    have h2 := List.length_filter_le (notB x.u) s.2
    simp only [canR, List.length_nil] at *; omega
theorem can_sub : ∀ (l : List Lk) (s : List Lk × List Lk) (y : Lk), y ∈ (canF l s).2 → y ∈ s.2 ∧ ∀ x ∈ l, y.u ≠ x.u
  | [], s, y, h => ⟨h, fun x hx => by cases hx⟩
  | x :: l, s, y, h => by
    obtain ⟨h1, h2⟩ := can_sub l (canR s x) y h
    have := grant_sub _ _ _ y h1
    rw [List.nil_append] at this
    have hf := List.mem_filter.1 this
    refine ⟨hf.1, fun z hz => ?_⟩
    rcases List.mem_cons.1 hz with rfl | hz
    · simpa [notB, ofB] using hf.2
    · exact h2 z hz
theorem can_end (held queue : List Lk) : (canF queue (held, queue)).2 = [] := by
  refine List.eq_nil_iff_forall_not_mem.2 fun y hy => ?_
  obtain ⟨h1, h2⟩ := can_sub queue (held, queue) y hy
  exact h2 y h1 rfl
theorem can_snoc {l : List Lk} {s : List Lk × List Lk} {j : Nat} (hj : j < l.length) : canF (l.take (j + 1)) s = canR (canF (l.take j) s) (l.getD j lk0) := by
  unfold canF
  rw [List.take_succ_eq_append_getElem hj, List.foldl_append, List.getD_eq_getElem?_getD, List.getElem?_eq_getElem hj]; rfl
theorem newF_id : ∀ (xs acc : List Lk), (∀ x ∈ xs, validL x = true) → (acc ++ xs).Pairwise (fun x y => confL x y = false) → xs.foldl (fun acc l => if (validL l && !conflB acc l) = true then acc ++ [l] else acc) acc = acc ++ xs
  | [], acc, _, _ => by simp
  | l :: xs, acc, hv, hp => by
    have hc : conflB acc l = false := by
      unfold conflB
      rw [List.any_eq_false]
      intro y hy
      rw [List.pairwise_append] at hp
      simpa using hp.2.2 y hy l (by simp)
    rw [List.foldl_cons, if_pos (by rw [hv l (by simp), hc]; rfl), newF_id xs (acc ++ [l]) (fun x hx => hv x (by simp [hx])) (by rw [List.append_assoc]; exact hp)]
    simp
theorem new_id {held queue : List Lk} (h : WF held queue) : newL held = held := by
  have := newF_id held [] h.vh (by simpa using h.ch)
  simpa [newL] using this
theorem playF_snoc {acts : List Ac} {s : List Lk × List Lk} {k : Nat} (hk : k < acts.length) : playF (acts.take (k + 1)) s = ((doL (playF (acts.take k) s).1 (playF (acts.take k) s).2 (acts.getD k ac0)).held, (doL (playF (acts.take k) s).1 (playF (acts.take k) s).2 (acts.getD k ac0)).queue) := by
  unfold playF
  rw [List.take_succ_eq_append_getElem hk, List.foldl_append, List.getD_eq_getElem?_getD, List.getElem?_eq_getElem hk]; rfl
noncomputable def sp46h (f : FuncId) (args : List AVal) (m : List AM.Item) (k : AVal → List AM.Item → Prop) : Prop := match f with
  | 59 => eqS lockK args m k
  | 65 => eqS int55 args m k
  | f => sp46g f args m k
theorem sp46h_ok : ∀ f args m k, sp46h f args m k → TripleF Try.prog f args m k := by
  intro f args m k h
  unfold sp46h at h
  split at h
  · exact eqS_ok locks_base h
  · exact eqS_ok ints_base h
  · exact sp46g_ok _ _ _ _ h
noncomputable def E14 : Eng := mkEngX Try.prog kinds46b eqT qt46e sp46h noQ maps46 (fun _ _ _ => none) (fun _ => false)
theorem E14_ok : E14.Ok := mkEngX_ok mixedT qt46eok sp46h_ok (fun _ _ _ _ _ h => by cases h) eqT_ok maps46_ok (fun _ _ _ _ h => by cases h)
set_option maxHeartbeats 4000000 in
theorem again_base (acts further : List Ac) : TripleF Try.prog 14 [.sc (.h 0), .sc (.h 1)] [.ro actK acts, .ro actK further] (fun r _ => r = .sc (.bool true) ∧ r.below 0 = true) := by
  refine base_of_awp (R := fun r => r = .sc (.bool true)) E14_ok Try.func14 rfl (by kernel_rfl) ?_
  conv => whnf
  refine Cast.mk _ _ ?_
  conv => whnf
  refine Br.mk (fun c1 => ?_) (fun c1 => ?_)
  · conv => whnf
  conv => whnf
  refine Cast.mk _ _ ?_
  conv => whnf
  refine Br.mk (fun c2 => ?_) (fun c2 => ?_)
  · conv => whnf
  have c1 : fewA acts 40 = true := by
    have c1 : (!fewA acts 40) = false := c1
    simpa using c1
  have c2 : fewA further 40 = true := by
    have c2 : (!fewA further 40) = false := c2
    simpa using c2
  have hl1 := few_len c1
  have hl2 := few_len c2
  conv => whnf
  refine Cast.mk _ _ (Need.mk (by omega) ?_)
  conv => whnf
  have hpl := play_len acts
  have hwf := play_wf acts
  refine Need.mk (by decide) (Cast.mk _ _ (Cast.mk _ _ (Need.mk ⟨by omega, by omega⟩ ?_)))
  generalize hH : (playL acts).1 = H at hpl hwf ⊢
  generalize hQ : (playL acts).2 = Q at hpl hwf ⊢
  conv => whnf
  refine Know.mk fun hlen => ?_
  have hlen : H.length ≤ 9223372036854775807 := hlen
  conv => whnf
  refine LoopF.inv Nat (fun i => i ≤ H.length) (fun i => [(44, .sc (.int false .i64 (i : Int)))]) (fun i => H.length - i)
    (fun i => [.ro actK acts, .ro actK further, .box 112 [.h 7, .h 8], .gone, .gone, .slc lockK H, .slc lockK Q, .slc lockK H, .slc lockK Q]) (fun _ => Nat.le_add_right 7 2) 0 [3, 4]
    (Nat.zero_le _) ⟨⟨⟨rfl, rfl⟩, trivial⟩, ⟨rfl, rfl, ⟨rfl, rfl⟩, trivial, trivial, rfl, rfl, rfl, rfl, trivial⟩, rfl⟩ ?_
  rintro i h1
  conv => whnf
  refine Br.mk (fun c3 => ?_) (fun c3 => ?_)
  · have hi := ltN c3
    refine Need.mk (show 0 ≤ (i : Int) ∧ (i : Int) < (H.length : Nat) from ⟨by omega, by omega⟩) ?_
    conv => whnf
    have hX : nth H ((i : Int)).toNat lockK.d = H.getD i lk0 := nth_eq _ _ _
    have hXm : H.getD i lk0 ∈ H := by
      rw [List.getD_eq_getElem?_getD, List.getElem?_eq_getElem hi]; exact List.getElem_mem hi
    rw [← hX] at hXm
    have l1 := again1 hwf hXm
    have l2 := again2 hwf hXm
    generalize nth H ((i : Int)).toNat lockK.d = X at l1 l2 ⊢
    obtain ⟨Xu, Xi, Xlo, Xhi, Xe, Xx⟩ := X
    conv => whnf
    refine Need.mk (by kernel_rfl) ?_
    conv => whnf
    refine Need.mk (show 7 ≠ 8 by decide) (Cast.mk _ _ (Cast.mk _ _ (Need.mk (by omega) ?_)))
    rw [l1]
    conv => whnf
    refine Br.mk (fun c => absurd (show ((0 : Int) != 0) = true from c) (by decide)) (fun _ => ?_)
    conv => whnf
    refine Need.mk (by decide) (Cast.mk _ _ (Cast.mk _ _ (Need.mk (show H.length + Q.length < 1048576 by omega) ?_)))
    have l3 : reqL ((0 : Int), H, Q).2.1 ((0 : Int), H, Q).2.2 ⟨Xu, Xi, Xlo, Xlo, false, false⟩ = (0, H, Q) := l2
    rw [l3]
    conv => whnf
    refine Br.mk (fun c => absurd (show ((0 : Int) != 0) = true from c) (by decide)) (fun _ => ?_)
    conv => whnf
    exact ⟨i + 1, [13, 14], by omega, by omega, ⟨⟨⟨rfl, wrap_succ hi hlen⟩, trivial⟩, ⟨rfl, rfl, ⟨rfl, rfl⟩, trivial, trivial, rfl, rfl, rfl, rfl, trivial⟩, rfl⟩, rfl⟩
  · have hi := geN c3
    conv => whnf
    refine Need.mk (show 7 ≠ 8 by decide) (Cast.mk _ _ (Cast.mk _ _ (Need.mk ⟨by omega, by omega⟩ ?_)))
    conv => whnf
    refine Cast.mk _ _ ?_
    conv => whnf
    refine Cast.mk _ _ ?_
    conv => whnf
    refine Need.mk rfl ?_
    conv => whnf
    refine Br.mk (fun c => absurd (show (!true) = true from c) (by decide)) (fun _ => ?_)
    conv => whnf
    refine Cast.mk _ _ ?_
    conv => whnf
    refine Cast.mk _ _ ?_
    conv => whnf
    refine Need.mk rfl ?_
    conv => whnf
    refine Br.mk (fun c => absurd (show (!true) = true from c) (by decide)) (fun _ => ?_)
    conv => whnf
    refine Know.mk fun hlq => ?_
    have hlq : Q.length ≤ 9223372036854775807 := hlq
    conv => whnf
    refine LoopF.inv Nat (fun j => j ≤ Q.length) (fun j => [(90, .sc (.int false .i64 (j : Int)))]) (fun j => Q.length - j)
      (fun j => [.ro actK acts, .ro actK further, .box 112 [.h 11, .h 12], .gone, .gone, .gone, .slc lockK Q, .gone, .gone, .gone, .gone, .slc lockK (canF (Q.take j) (H, Q)).1, .slc lockK (canF (Q.take j) (H, Q)).2]) (fun _ => Nat.le_add_right 11 2) 0 [7, 8]
      (Nat.zero_le _) ⟨⟨⟨rfl, rfl⟩, trivial⟩, ⟨rfl, rfl, ⟨rfl, rfl⟩, trivial, trivial, trivial, rfl, trivial, trivial, trivial, trivial, rfl, rfl, trivial⟩, rfl⟩ ?_
    rintro j h2
    have hsn : j < Q.length → canF (Q.take (j + 1)) (H, Q) = canR (canF (Q.take j) (H, Q)) (Q.getD j lk0) := can_snoc
    have hwhole : Q.length ≤ j → canF (Q.take j) (H, Q) = canF Q (H, Q) := fun h => by rw [List.take_of_length_le h]
    have hcl := can_len (Q.take j) (H, Q)
    have hcw := can_wf (Q.take j) (H, Q) hwf
    generalize canF (Q.take j) (H, Q) = T at hsn hwhole hcl hcw
    simp only at hcl
    conv => whnf
    refine Br.mk (fun c4 => ?_) (fun c4 => ?_)
    · have hj := ltN c4
      have hsn := hsn hj
      refine Need.mk (show 0 ≤ (j : Int) ∧ (j : Int) < (Q.length : Nat) from ⟨by omega, by omega⟩) ?_
      conv => whnf
      refine Need.mk (show 11 ≠ 12 by decide) (Cast.mk _ _ (Cast.mk _ _ (Need.mk (by omega) ?_)))
      conv => whnf
      refine ⟨j + 1, [14, 15], by omega, by omega, ⟨⟨⟨rfl, wrap_succ hj hlq⟩, trivial⟩, ⟨rfl, rfl, ⟨rfl, rfl⟩, trivial, trivial, trivial, rfl, trivial, trivial, trivial, trivial, ?_, ?_, trivial⟩, rfl⟩, rfl⟩
      · show AM.Item.slc lockK (grantL T.1 [] (T.2.filter (notB (nth Q j lk0).u))).1 = .slc lockK (canF (Q.take (j + 1)) (H, Q)).1
        rw [hsn, canR, nth_eq]
      · show AM.Item.slc lockK (grantL T.1 [] (T.2.filter (notB (nth Q j lk0).u))).2.1 = .slc lockK (canF (Q.take (j + 1)) (H, Q)).2
        rw [hsn, canR, nth_eq]
    · have hj := geN c4
      have he : T.2 = [] := by rw [hwhole hj]; exact can_end H Q
      obtain ⟨N, T2⟩ := T
      simp only at he
      subst he
      simp only at hcl
      have hN := new_id hcw
      simp only at hN
      conv => whnf
      refine Need.mk (show 11 ≠ 12 by decide) (Cast.mk _ _ (Cast.mk _ _ (Need.mk ⟨show N.length ≤ 1048576 by simp at hcl; omega, Nat.zero_le _⟩ ?_)))
      conv => whnf
      refine Cast.mk _ _ (Need.mk (show N.length ≤ 1048576 by simp at hcl; omega) ?_)
      conv => whnf
      refine Know.mk fun hlf => ?_
      have hlf : further.length ≤ 9223372036854775807 := hlf
      conv => whnf
      refine LoopF.inv Nat (fun k => k ≤ further.length) (fun k => [(110, .sc (.int false .i64 (k : Int)))]) (fun k => further.length - k)
        (fun k => [.ro actK acts, .ro actK further, .box 112 [.h 18, .h 19], .gone, .gone, .gone, .gone, .gone, .gone, .gone, .gone, .gone, .gone, .gone, .gone, .box 112 [.h 20, .h 21], .gone, .gone,
          .slc lockK (playF (further.take k) (N, [])).1, .slc lockK (playF (further.take k) (N, [])).2, .slc lockK (playF (further.take k) (N, [])).1, .slc lockK (playF (further.take k) (N, [])).2]) (fun _ => Nat.le_add_right 18 4) 0 [11, 12, 16, 17]
        (Nat.zero_le _) ⟨⟨⟨rfl, rfl⟩, trivial⟩, ⟨rfl, rfl, ⟨rfl, rfl⟩, trivial, trivial, trivial, trivial, trivial, trivial, trivial, trivial, trivial, trivial, trivial, trivial, ⟨rfl, rfl⟩, trivial, trivial, rfl, rfl, ?_, rfl, trivial⟩, rfl⟩ ?_
      · show AM.Item.slc lockK (newL N) = .slc lockK N
        rw [hN]
      rintro k h3
      have hps : k < further.length → playF (further.take (k + 1)) (N, []) = _ := playF_snoc
      have hpl2 := playF_len (further.take k) (N, [])
      generalize playF (further.take k) (N, []) = P at hps hpl2
      rw [List.length_take] at hpl2
      simp only [List.length_nil] at hpl2 hcl
      conv => whnf
      refine Br.mk (fun c5 => ?_) (fun c5 => ?_)
      · have hk := ltN c5
        have hps := hps hk
        refine Need.mk (show 0 ≤ (k : Int) ∧ (k : Int) < (further.length : Nat) from ⟨by omega, by omega⟩) ?_
        conv => whnf
        refine Need.mk (show 18 ≠ 19 by decide) (Cast.mk _ _ (Cast.mk _ _ (Need.mk (by omega) ?_)))
        conv => whnf
        refine Need.mk (show 20 ≠ 21 by decide) (Cast.mk _ _ (Cast.mk _ _ (Need.mk (by omega) ?_)))
        conv => whnf
        refine Br.mk (fun c => ?_) (fun _ => ?_)
        · have c : ((doL P.1 P.2 (nth further k ac0)).e != (doL P.1 P.2 (nth further k ac0)).e) = true := c
          simp at c
        conv => whnf
        refine Cast.mk _ _ ?_
        conv => whnf
        refine Cast.mk _ _ ?_
        conv => whnf
        refine Need.mk rfl ?_
        conv => whnf
        refine Br.mk (fun c => absurd (show (!true) = true from c) (by decide)) (fun _ => ?_)
        conv => whnf
        refine ⟨k + 1, [23, 24, 26, 27], by omega, by omega, ⟨⟨⟨rfl, wrap_succ hk hlf⟩, trivial⟩, ⟨rfl, rfl, ⟨rfl, rfl⟩, trivial, trivial, trivial, trivial, trivial, trivial, trivial, trivial, trivial, trivial, trivial, trivial, ⟨rfl, rfl⟩, trivial, trivial, ?_, ?_, ?_, ?_, trivial⟩, rfl⟩, rfl⟩
        all_goals rw [hps, ← nth_eq]
        all_goals rfl
      · conv => whnf
end Go.Proofs.Ytljokmmgkecjbaa

namespace Go.Proofs.Ytljokmmgkecjbaa
open Go Go.AM
/-! the reference's conflicts and New -/
noncomputable def E96 : Eng := mkEng Try.prog kinds46b eqT qt46c noSpec noQ
theorem E96_ok : E96.Ok := mkEng_ok mixedT qt46cok (fun _ _ _ _ h => h.elim) (fun _ _ _ _ _ h => by cases h) eqT_ok
theorem rconflicts_base (xs : List Lk) (x : Lk) : TripleF Try.prog 96 [.sc (.h 0), x.A] [.ro lockK xs] (fun r _ => r = .sc (.bool (conflB xs x)) ∧ r.below 0 = true) := by
  refine base_of_awp (R := fun r => r = .sc (.bool (conflB xs x))) E96_ok Try.func96 rfl (by kernel_rfl) ?_
  obtain ⟨u, i, lo, hi, e, x'⟩ := x
  simp only [Lk.A]
  conv => whnf
  refine LoopF.inv Nat (fun k => k ≤ xs.length ∧ (xs.take k).any (fun y => confL y ⟨u, i, lo, hi, e, x'⟩) = false) (fun k => [(5, .sc (.int false .i64 (k : Int)))]) (fun k => xs.length - k)
    (fun _ => [.ro lockK xs, .box 58 (Lk.S ⟨u, i, lo, hi, e, x'⟩)]) (fun _ => Nat.le_refl _) 0 []
    ⟨Nat.zero_le _, rfl⟩ ⟨⟨⟨rfl, rfl⟩, trivial⟩, ⟨rfl, ⟨rfl, rfl⟩, trivial⟩, rfl⟩ ?_
  rintro k ⟨h1, h2⟩
  conv => whnf
  refine Know.mk fun hlen => ?_
  have hlen : xs.length ≤ 9223372036854775807 := hlen
  conv => whnf
  refine Br.mk (fun c1 => ?_) (fun c1 => ?_)
  · have hk := ltN c1
    have hsn := any_snoc (p := fun y => confL y ⟨u, i, lo, hi, e, x'⟩) hk
    conv => whnf
    refine Need.mk (by kernel_rfl) ?_
    conv => whnf
    refine Need.mk (show 0 ≤ (k : Int) ∧ (k : Int) < (xs.length : Nat) from ⟨by omega, by omega⟩) ?_
    conv => whnf
    refine Need.mk trivial ?_
    conv => whnf
    refine Br.mk (fun c2 => ?_) (fun c2 => ?_)
    · have c2 : confL (nth xs k lk0) ⟨u, i, lo, hi, e, x'⟩ = true := c2
      rw [nth_eq] at c2
      conv => whnf
      have : conflB xs ⟨u, i, lo, hi, e, x'⟩ = true := by
        refine List.any_eq_true.2 ⟨xs.getD k lk0, ?_, c2⟩
        rw [List.getD_eq_getElem?_getD, List.getElem?_eq_getElem hk]; exact List.getElem_mem hk
      rw [this]
    · have c2 : confL (nth xs k lk0) ⟨u, i, lo, hi, e, x'⟩ = false := c2
      rw [nth_eq] at c2
      conv => whnf
      refine ⟨k + 1, [], ⟨by omega, by rw [hsn, h2, c2]; rfl⟩, by omega, ⟨⟨⟨rfl, wrap_succ hk hlen⟩, trivial⟩, ⟨rfl, ⟨rfl, rfl⟩, trivial⟩, rfl⟩, rfl⟩
  · have c1 := geN c1
    rw [List.take_of_length_le c1] at h2
    conv => whnf
    have : conflB xs ⟨u, i, lo, hi, e, x'⟩ = false := h2
    rw [this]
theorem confQ96_ok {args : List AVal} {m : List AM.Item} {p : Prop} {r : AVal} (h : confQ args m = some (p, r)) (hp : p) {m2 : List AM.Item} (hle : LeM m m2) : TripleF Try.prog 96 args m2 fun r' m' => r' = r ∧ m' = m2 := by
  unfold confQ at h
  split at h
  · rename_i t x
    split at h
    · rename_i l hl
      split at h
      · rename_i K xs hrow
        cases h
        cases hp
        have hn : m[t]? = some (nth m t .gone) := nth_some rfl (by intro e; rw [e] at hrow; cases hrow)
        have hn2 := hle.2 t _ hn (by
          cases hit : nth m t Item.gone with
          | gone => rw [hit] at hrow; cases hrow
          | _ => rfl)
        have hf : roFit2 m2 [.ro lockK xs] [t] := by
          refine ⟨⟨lockK, xs, ?_, rfl, rfl⟩, trivial⟩
          rw [show nth m2 t .gone = nth m t .gone from by rw [nth_eq, List.getD_eq_getElem?_getD, hn2]; rfl]
          exact hrow
        exact TripleF.arg (pre := [.sc (.h t)]) (post := []) (fun env v => lkOf_rep hl) (frame_ro2 (rconflicts_base xs l) [t] rfl rfl hf fun r hr => by rw [castL_eq]; exact ⟨hr, rfl⟩)
      · cases h
    · cases h
  · cases h
noncomputable def qs46r (f : FuncId) (args : List AVal) (m : List AM.Item) : Option (Prop × AVal) := match f with
  | 96 => confQ args m
  | _ => none
theorem qs46r_ok : ∀ f args m p r, qs46r f args m = some (p, r) → p → ∀ m2, LeM m m2 → TripleF Try.prog f args m2 fun r' m' => r' = r ∧ m' = m2 := by
  intro f args m p r h hp m2 hle
  unfold qs46r at h
  split at h
  · exact confQ96_ok h hp hle
  · cases h
noncomputable def E60 : Eng := mkEng Try.prog kinds46b eqT qt46c noSpec qs46r
theorem E60_ok : E60.Ok := mkEng_ok mixedT qt46cok (fun _ _ _ _ h => h.elim) qs46r_ok eqT_ok
theorem rnew_base (xs : List Lk) (hb : xs.length ≤ 1048576) : TripleF Try.prog 60 [.sc (.h 0)] [.ro lockK xs] (fun r m' => r = .agg [.h 1, .h 2] ∧ m' = [.ro lockK xs, .slc lockK (newL xs), .slc lockK []]) := by
  refine triple_of_awp E60_ok Try.func60 rfl (by kernel_rfl) ?_
  conv => whnf
  refine LoopF.tell (.nilB 2 0 lockK) _ _ (And.intro rfl rfl) ?_
  refine LoopF.tell (.nilB 2 1 lockK) _ _ (And.intro rfl rfl) ?_
  refine LoopF.inv Nat (fun k => k ≤ xs.length) (fun k => [(4, .sc (.int false .i64 (k : Int)))]) (fun k => xs.length - k)
    (fun k => [.ro lockK xs, .box 76 [.val (.slice none 0 0), .val (.slice none 0 0)], .box 76 [.h 5, .h 4], .gone, .slc lockK [], .slc lockK (newL (xs.take k))]) (fun _ => Nat.le_succ _) 0 [3]
    (Nat.zero_le _) ⟨⟨⟨rfl, rfl⟩, trivial⟩, ⟨rfl, ⟨rfl, rfl⟩, ⟨rfl, rfl⟩, trivial, rfl, rfl, trivial⟩, rfl⟩ ?_
  rintro k h1
  conv => whnf
  refine Know.mk fun hlen => ?_
  have hlen : xs.length ≤ 9223372036854775807 := hlen
  conv => whnf
  have hnl := newL_le (xs.take k)
  rw [List.length_take] at hnl
  refine Br.mk (fun c1 => ?_) (fun c1 => ?_)
  · have hk := ltN c1
    have hfs := foldl_snoc (f := fun acc l => if (validL l && !conflB acc l) = true then acc ++ [l] else acc) (a := ([] : List Lk)) hk
    conv => whnf
    refine Need.mk (by kernel_rfl) ?_
    conv => whnf
    refine Need.mk (show 0 ≤ (k : Int) ∧ (k : Int) < (xs.length : Nat) from ⟨by omega, by omega⟩) ?_
    conv => whnf
    refine Need.mk trivial ?_
    conv => whnf
    refine Br.mk (fun c2 => ?_) (fun c2 => ?_)
    · have c2 : validL (nth xs (k : Int).toNat lk0) = true := c2
      rw [Int.toNat_natCast, nth_eq] at c2
      conv => whnf
      refine Need.mk (show 0 ≤ (k : Int) ∧ (k : Int) < (xs.length : Nat) from ⟨by omega, by omega⟩) ?_
      conv => whnf
      refine Need.mk rfl ?_
      conv => whnf
      refine Br.mk (fun c3 => ?_) (fun c3 => ?_)
      · have c3 : (!conflB (castL lockK (newL (xs.take k))) (nth xs (k : Int).toNat lk0)) = true := c3
        rw [Int.toNat_natCast, nth_eq, castL_eq] at c3
        rw [if_pos (by rw [c2]; simp only [newL] at c3; rw [c3]; rfl)] at hfs
        conv => whnf

        refine Need.mk (show 0 ≤ (k : Int) ∧ (k : Int) < (xs.length : Nat) from ⟨by omega, by omega⟩) ?_
        conv => whnf

        refine Cast.mk _ _ ?_
        conv => whnf
        refine Need.mk (show ((newL (xs.take k)).length + 1) * 64 ≤ 140737488355328 from by omega) ?_
        conv => whnf
        refine Need.mk (by kernel_rfl) ?_
        conv => whnf
        refine ⟨k + 1, [7], by omega, by omega, ⟨⟨⟨rfl, wrap_succ hk hlen⟩, trivial⟩, ⟨rfl, ⟨rfl, rfl⟩, ⟨rfl, rfl⟩, trivial, rfl, ?_, trivial⟩, rfl⟩, rfl⟩
        show AM.Item.slc lockK (newL (xs.take k) ++ [nth xs (k : Int).toNat lk0]) = .slc lockK (newL (xs.take (k + 1)))
        rw [Int.toNat_natCast, nth_eq]
        conv => rhs; rw [newL, hfs]
        rfl
      · have c3 : (!conflB (castL lockK (newL (xs.take k))) (nth xs (k : Int).toNat lk0)) = false := c3
        rw [Int.toNat_natCast, nth_eq, castL_eq] at c3
        rw [if_neg (by rw [c2]; simp only [newL] at c3; rw [c3]; simp)] at hfs
        conv => whnf
        refine ⟨k + 1, [5], by omega, by omega, ⟨⟨⟨rfl, wrap_succ hk hlen⟩, trivial⟩, ⟨rfl, ⟨rfl, rfl⟩, ⟨rfl, rfl⟩, trivial, rfl, ?_, trivial⟩, rfl⟩, rfl⟩
        show AM.Item.slc lockK (newL (xs.take k)) = .slc lockK (newL (xs.take (k + 1)))
        rw [newL, newL, hfs]
    · have c2 : validL (nth xs (k : Int).toNat lk0) = false := c2
      rw [Int.toNat_natCast, nth_eq] at c2
      conv => whnf
      rw [if_neg (by rw [c2]; simp)] at hfs
      refine ⟨k + 1, [5], by omega, by omega, ⟨⟨⟨rfl, wrap_succ hk hlen⟩, trivial⟩, ⟨rfl, ⟨rfl, rfl⟩, ⟨rfl, rfl⟩, trivial, rfl, ?_, trivial⟩, rfl⟩, rfl⟩
      show AM.Item.slc lockK (newL (xs.take k)) = .slc lockK (newL (xs.take (k + 1)))
      rw [newL, newL, hfs]
  · have c1 := geN c1
    conv => whnf
    refine FinF.mk _ (.agg [.h 1, .h 2]) [.ro lockK xs, .slc lockK (newL xs), .slc lockK []] [5, 4] rfl rfl rfl ⟨rfl, ?_, rfl, trivial⟩ rfl (Nat.le_add_right 1 2) ⟨rfl, rfl⟩
    show AM.Item.slc lockK (newL (xs.take k)) = _
    rw [List.take_of_length_le c1]
end Go.Proofs.Ytljokmmgkecjbaa

namespace Go.Proofs.Ytljokmmgkecjbaa
open Go Go.AM
noncomputable def rnewS (args : List AVal) (m : List AM.Item) (k : AVal → List AM.Item → Prop) : Prop := match args with
  | [.sc (.h t)] => match (nth m t .gone).row with
    | some ⟨K, xs⟩ => Cast (K1 := lockK) K xs fun xs => Need (xs.length ≤ 1048576) (snocK m (.slc lockK (newL xs)) fun m1 n1 => snocK m1 (.slc lockK []) fun m2 n2 => k (.agg [.h n1, .h n2]) m2)
    | none => False
  | _ => False
theorem rnewS_ok {args : List AVal} {m : List AM.Item} {k : AVal → List AM.Item → Prop} (h : rnewS args m k) : TripleF Try.prog 60 args m k := by
  unfold rnewS at h
  split at h
  · rename_i t
    split at h
    · rename_i K xs hrow
      obtain ⟨xs, _, hlen, h⟩ := h
      simp only [snocK_eq, List.length_append, List.length_singleton, List.append_assoc] at h
      have hg : nth m t .gone ≠ .gone := by intro e; rw [e] at hrow; cases hrow
      exact frame_add (m0 := [.ro lockK xs]) (extra := [.slc lockK (newL xs), .slc lockK []]) (rnew_base xs hlen) [t] rfl rfl ⟨⟨lockK, xs, hrow, rfl, rfl⟩, trivial⟩ rfl (by simp only [List.all_cons, List.all_nil, Bool.and_true, Nat.blt_eq]; exact nth_lt rfl hg) h
    · exact h.elim
  · exact h.elim
noncomputable def sp47 (f : FuncId) (args : List AVal) (m : List AM.Item) (k : AVal → List AM.Item → Prop) : Prop := match f with
  | 60 => rnewS args m k
  | f => sp46h f args m k
theorem sp47_ok : ∀ f args m k, sp47 f args m k → TripleF Try.prog f args m k := by
  intro f args m k h
  unfold sp47 at h
  split at h
  · exact rnewS_ok h
  · exact sp46h_ok _ _ _ _ h
noncomputable def E11 : Eng := mkEngX Try.prog kinds46b eqT qt46e sp47 noQ maps46 (fun _ _ _ => none) (fun _ => false)
theorem E11_ok : E11.Ok := mkEngX_ok mixedT qt46eok sp47_ok (fun _ _ _ _ _ h => by cases h) eqT_ok maps46_ok (fun _ _ _ _ h => by cases h)
set_option maxHeartbeats 4000000 in
theorem rules_base (xs : List Lk) : TripleF Try.prog 11 [.sc (.h 0)] [.ro lockK xs] (fun r _ => r = .sc (.bool true) ∧ r.below 0 = true) := by
  refine base_of_awp (R := fun r => r = .sc (.bool true)) E11_ok Try.func11 rfl (by kernel_rfl) ?_
  conv => whnf
  refine Know.mk fun hlen => ?_
  have hlen : xs.length ≤ 9223372036854775807 := hlen
  conv => whnf
  refine Br.mk (fun c1 => ?_) (fun c1 => ?_)
  · conv => whnf
  have hl20 : xs.length ≤ 20 := by
    have c1 : decide ((xs.length : Int) > 20) = false := c1
    simp at c1; omega
  conv => whnf
  refine Know.mk fun _ => ?_
  conv => whnf
  refine LoopF.inv Nat (fun k => k ≤ xs.length) (fun k => [(18, .sc (.int false .i64 (k : Int)))]) (fun k => xs.length - k) (fun _ => [AM.Item.ro lockK xs]) (fun _ => Nat.le_refl _) 0 []
    (Nat.zero_le _) ⟨⟨⟨rfl, rfl⟩, trivial⟩, ⟨rfl, trivial⟩, rfl⟩ ?_
  rintro k h1
  conv => whnf
  refine Br.mk (fun c2 => ?_) (fun c2 => ?_)
  · have hk := ltN c2
    refine Need.mk (show 0 ≤ (k : Int) ∧ (k : Int) < (xs.length : Nat) from ⟨by omega, by omega⟩) ?_
    conv => whnf
    refine Br.mk (fun c3 => ?_) (fun c3 => ?_)
    · conv => whnf
    · conv => whnf
      refine Br.mk (fun c4 => ?_) (fun c4 => ?_)
      · conv => whnf
      · conv => whnf
        exact ⟨k + 1, [], by omega, by omega, ⟨⟨⟨rfl, wrap_succ hk hlen⟩, trivial⟩, ⟨rfl, trivial⟩, rfl⟩, rfl⟩
  · conv => whnf
    refine Know.mk fun _ => ?_
    conv => whnf
    refine LoopF.inv Nat (fun i => i ≤ xs.length) (fun i => [(38, .sc (.int false .i64 (i : Int)))]) (fun i => xs.length - i) (fun _ => [AM.Item.ro lockK xs]) (fun _ => Nat.le_refl _) 0 []
      (Nat.zero_le _) ⟨⟨⟨rfl, rfl⟩, trivial⟩, ⟨rfl, trivial⟩, rfl⟩ ?_
    rintro i h2
    conv => whnf
    refine Br.mk (fun c3 => ?_) (fun c3 => ?_)
    · have hi := ltN c3
      refine Need.mk (show 0 ≤ (i : Int) ∧ (i : Int) < (xs.length : Nat) from ⟨by omega, by omega⟩) ?_
      conv => whnf
      generalize nth xs ((i : Int)).toNat lockK.d = X
      obtain ⟨Xu, Xi, Xlo, Xhi, Xe, Xx⟩ := X
      conv => whnf
      refine Know.mk fun _ => ?_
      conv => whnf
      refine LoopF.inv Nat (fun j => j ≤ xs.length) (fun j => [(44, .sc (.int false .i64 (j : Int)))]) (fun j => xs.length - j)
        (fun j => [.ro lockK xs, .box 58 (Lk.S ⟨Xu, Xi, Xlo, Xhi, Xe, Xx⟩)]) (fun _ => Nat.le_refl _) 0 []
        (Nat.zero_le _) ⟨⟨⟨rfl, rfl⟩, trivial⟩, ⟨rfl, ⟨rfl, rfl⟩, trivial⟩, rfl⟩ ?_
      rintro j h3
      conv => whnf
      refine Br.mk (fun c4 => ?_) (fun c4 => ?_)
      · have hj := ltN c4
        refine Need.mk (show 0 ≤ (j : Int) ∧ (j : Int) < (xs.length : Nat) from ⟨by omega, by omega⟩) ?_
        conv => whnf
        generalize nth xs ((j : Int)).toNat lockK.d = Y
        obtain ⟨Yu, Yi, Ylo, Yhi, Ye, Yx⟩ := Y
        conv => whnf
        refine Need.mk (by kernel_rfl) ?_
        conv => whnf
        refine Need.mk trivial ?_
        conv => whnf
        refine Need.mk trivial ?_
        conv => whnf
        refine Br.mk (fun c => ?_) (fun _ => ?_)
        · have c : (confL ⟨Xu, Xi, Xlo, Xhi, Xe, Xx⟩ ⟨Yu, Yi, Ylo, Yhi, Ye, Yx⟩ != confL ⟨Xu, Xi, Xlo, Xhi, Xe, Xx⟩ ⟨Yu, Yi, Ylo, Yhi, Ye, Yx⟩) = true := c
          simp at c
        conv => whnf
        exact ⟨j + 1, [], by omega, by omega, ⟨⟨⟨rfl, wrap_succ hj hlen⟩, trivial⟩, ⟨rfl, ⟨rfl, rfl⟩, trivial⟩, rfl⟩, rfl⟩
      · conv => whnf
        refine Need.mk (by kernel_rfl) ?_
        conv => whnf
        refine Need.mk trivial ?_
        conv => whnf
        refine Need.mk trivial ?_
        conv => whnf
        refine Br.mk (fun c => ?_) (fun _ => ?_)
        · have c : (validL ⟨Xu, Xi, Xlo, Xhi, Xe, Xx⟩ != validL ⟨Xu, Xi, Xlo, Xhi, Xe, Xx⟩) = true := c
          simp at c
        conv => whnf
        exact ⟨i + 1, [], by omega, by omega, ⟨⟨⟨rfl, wrap_succ hi hlen⟩, trivial⟩, ⟨rfl, trivial⟩, rfl⟩, rfl⟩
    · conv => whnf
      refine Cast.mk _ _ (Need.mk (by omega) ?_)
      conv => whnf
      have hnl := newL_le xs
      refine Need.mk (by decide) (Cast.mk _ _ (Cast.mk _ _ (Need.mk ⟨by omega, Nat.zero_le _⟩ ?_)))
      conv => whnf
      refine Cast.mk _ _ (Need.mk (by omega) ?_)
      conv => whnf
      refine Cast.mk _ _ ?_
      conv => whnf
      refine Cast.mk _ _ ?_
      conv => whnf
      refine Need.mk rfl ?_
      conv => whnf
      refine Br.mk (fun _ => ?_) (fun c => absurd (show true = false from c) (by decide))
      conv => whnf
      refine Know.mk fun _ => ?_
      conv => whnf
      refine Br.mk (fun _ => ?_) (fun c => absurd (show (((0 : Nat) : Int) == 0) = false from c) (by decide))
      conv => whnf
end Go.Proofs.Ytljokmmgkecjbaa

namespace Go.Proofs.Ytljokmmgkecjbaa.lockRules
open Go Go.AM Go.ChangeShapes Go.WideShapes Go.ChangeAt Go.RowKit
open Go.ChangeMaps (open_string shut_string)
theorem own : ownKnob Try.prog.godebug = none := by kernel_rfl
theorem laidOut : laidOutB Try.prog = true := by kernel_rfl
theorem lifted (os : Os) (started : os.Started) (H : Type) (enc : TypeId × Value → H) :
    ReturnsInHanded {} Try.checked os 11 .any (Rows.lockRulesSpec.pre6 enc Try.prog Try.f11 Rows.lockRulesRow.domain false) (Rows.lockRulesSpec.post enc Try.prog Try.f11 false true false false) := by
  refine returnsInHanded_of_change_sized (C := Try.checked) own started (by kernel_rfl) Try.func11
    (ChangeSpec.witness6 (enc := enc) (C := Try.checked) false ⟨#[], #[.slice none 0 0], []⟩ 8 (by kernel_rfl) (by kernel_rfl) (by kernel_rfl) (by kernel_rfl)) ?_
  intro W base args ds gs before hval0 hW hcnd hsz0 _
  have hval : ∀ (j : Nat) t v, Try.f11.params[j]? = some t → args[j]? = some v → Value.okWide Try.prog W .any base t v := hval0
  have hW' := hW
  obtain ⟨p, q, hA0, hV, rfl, hfz, hnd⟩ := hW
  have hA : DataW.TrodAll enc Try.prog W 0 (fun _ => true) true Try.f11.params.toList args.toList ds p := hA0
  rw [Try.params11] at hA hval
  obtain ⟨v0, vs0, d0, ds0, p0, q0, hargs, rfl, rfl, h0, r0⟩ := trodAll_cons hA
  obtain ⟨rfl, rfl, rfl⟩ := trodAll_nil r0
  obtain rfl : args = #[v0] := by cases args; simp_all
  obtain ⟨rfl, rfl⟩ := trodVars_none hV
  have k0 := h0
  have lt0 : ∀ x ∈ p0, x.block < W.heap.size := by obtain ⟨m, hm⟩ := k0; exact DataW.trod_lt m _ _ _ hm
  obtain ⟨a0, R0⟩ := open_locks (hval 0 69 v0 rfl rfl) h0
  have o0 : v0.oneCell' = true := by obtain ⟨A, c, rfl, _⟩ := R0; rfl
  clear hA0 hval0 hsz0
  have hm : ∀ (t : Nat) (it : AM.Item) (v : Value), ([.ro lockK a0] : List AM.Item)[t]? = some it → ([v0] : List Value)[t]? = some v → ∃ (K : Kind) (xs : List K.T), it = .ro K xs ∧ RoRow W (fun _ => False) K xs v := by
    intro t it v h1 h2
    match t, h1, h2 with
    | 0, h1, h2 => cases h1; cases h2; exact ⟨lockK, a0, rfl, R0⟩
    | n + 1, h1, h2 => simp at h1
  refine (calls_ro (env := [v0]) (rules_base a0) rfl W hm ⟨_, _, rfl, ⟨rfl, o0⟩, rfl⟩).mono fun e W' ⟨he, bel⟩ => ?_
  subst he
  exact ⟨_, rfl, _, _, _, [], _, [], hW', trodAll_mk1 (shut_bool Try.underlying4 _), (trodAll_cons_mk (Below.trod laidOut (by kernel_rfl) (of_decide_eq_true (by kernel_rfl)) k0 bel lt0) trodAll_mk0), rfl, bel.frame _, fun h => by cases h⟩
theorem over : Rows.lockRulesRow.holds Try.pinned (OpenSpec.ofChange Rows.lockRulesSpec) :=
  OpenClaim.holds_of_wide 11 Try.f11 rfl rfl rfl rfl rfl rfl rfl ⟨rfl, rfl, rfl, rfl, rfl⟩ rfl rfl rfl rfl rfl (by kernel_rfl) Try.func11 (by kernel_rfl)
    (of_decide_eq_true (by kernel_rfl)) (by unfold Func.isWrapper; first | (rw [if_pos (by decide +kernel)]; kernel_rfl) | (rw [if_neg (by decide +kernel)]; exact ⟨rfl, rfl⟩))
    (fun os started H enc _ => lifted os started H enc)
theorem proved : Rows.LockRulesSaid := over
end Go.Proofs.Ytljokmmgkecjbaa.lockRules
namespace Go.Proofs.Ytljokmmgkecjbaa
theorem lockRules_holds : Rows.LockRulesSaid := lockRules.proved
#print axioms lockRules_holds
end Go.Proofs.Ytljokmmgkecjbaa
