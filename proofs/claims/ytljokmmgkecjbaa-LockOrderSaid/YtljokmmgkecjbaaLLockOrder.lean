/- For every input the law LockOrder returns true, and each argument reads as before; no further condition. -/
import Derived.Test.YtljokmmgkecjbaaQh
import Derived.Test.YtljokmmgkecjbaaQf
import Derived.SizedLaws
import Derived.Test.YtljokmmgkecjbaaRows
set_option linter.unusedVariables false
set_option linter.unusedSimpArgs false
set_option maxRecDepth 100000
namespace Go.Proofs.Ytljokmmgkecjbaa
open Go Go.AM
theorem conf_comm (a b : Lk) : confL a b = confL b a := by
  unfold confL
  rw [meet_comm a.rg b.rg]
  have h1 : (a.u != b.u) = (b.u != a.u) := bne_comm
  have h2 : (a.i == b.i) = (b.i == a.i) := BEq.comm
  rw [h1, h2, Bool.or_comm a.x b.x]
theorem eqL_refl (a : Lk) : eqL a a = true := by
  simp [eqL, sEq]
/-- a new unit that holds nothing and does not wait -/
theorem order_law {held queue : List Lk} {x : Lk} (hv : validL x = true) (hh : held.filter (ofB x.u) = []) (hq : queue.any (ofB x.u) = false) :
    ((held ++ queue).all (fun y => !confL x y) = true → (reqL held queue x).1 = 0) ∧
    ((held ++ queue).all (fun y => !confL x y) = false → reqL held queue x = (15, held, queue ++ [x]) ∧ reqL held (queue ++ [x]) x = (15, held, queue ++ [x])) := by
  have hcov : held.any (covB x) = false := by
    rw [List.any_eq_false]
    intro y hy hc
    have hu : y.u = x.u := by
      simp only [covB, Bool.and_eq_true, beq_iff_eq] at hc
      exact hc.1.1.1
    have : y ∈ held.filter (ofB x.u) := List.mem_filter.2 ⟨hy, by simpa [ofB] using hu⟩
    rw [hh] at this; cases this
  have hreq : reqL held queue x = askL held queue x := req_new hv hcov hq
  have hconf : ∀ b, conflB (held.filter (ofB x.u)) b = false := fun b => by rw [hh]; rfl
  refine ⟨fun hf => ?_, fun hf => ?_⟩
  · rw [List.all_eq_true] at hf
    have he : (blkM held queue x).isEmpty = true := by
      cases hz : blkM held queue x with
      | nil => rfl
      | cons p t =>
        have : p.1 ∈ keysM (blkM held queue x) := by rw [hz]; simp [keysM]
        rw [keys_blk] at this
        rcases this with ⟨y, hy, hc, _⟩ | ⟨y, hy, hc, _⟩
        · have := hf y (by simp [hy])
          rw [conf_comm, hc] at this; cases this
        · have := hf y (by simp [hy])
          simp only [Bool.and_eq_true] at hc
          rw [conf_comm, hc.1] at this; cases this
    rw [hreq, ask_free he]
  · have hex : ∃ y ∈ held ++ queue, confL y x = true := by
      rw [List.all_eq_false] at hf
      obtain ⟨y, hy, hc⟩ := hf
      exact ⟨y, hy, by rw [conf_comm]; simpa using hc⟩
    obtain ⟨y, hy, hc⟩ := hex
    have hk : y.u ∈ keysM (blkM held queue x) := by
      rw [keys_blk]
      rcases List.mem_append.1 hy with h | h
      · exact .inl ⟨y, h, hc, rfl⟩
      · exact .inr ⟨y, h, by rw [hc, hconf]; rfl, rfl⟩
    have he : (blkM held queue x).isEmpty = false := by
      cases hz : blkM held queue x with
      | nil => rw [hz] at hk; cases hk
      | cons _ _ => rfl
    have hnu : x.u ∉ unitsL held queue := fun h => by
      obtain ⟨z, hz, hzu⟩ := List.mem_map.1 h
      rcases List.mem_append.1 hz with h | h
      · have : z ∈ held.filter (ofB x.u) := List.mem_filter.2 ⟨h, by simpa [ofB] using hzu⟩
        rw [hh] at this; cases this
      · rw [List.any_eq_false] at hq
        exact hq z h (by simpa [ofB] using hzu)
    have hr : reachB held queue (blkM held queue x) x.u = false := by
      refine reach_no ?_
      rintro ⟨k, hk, hre⟩
      have key : ∀ a b, Reach held queue a b → a ∈ unitsL held queue → b ∈ unitsL held queue := fun a b hre => by
        induction hre with
        | refl n => exact id
        | step h _ ih => exact fun _ => ih (edge_units h)
      exact hnu (key _ _ hre (blk_units (fun _ h => h) hk))
    have h1 : reqL held queue x = (15, held, queue ++ [x]) := by
      rw [hreq]; simp only [askL, he, hr]
    refine ⟨h1, ?_⟩
    have hany : (queue ++ [x]).any (ofB x.u) = true := by simp [ofB]
    have hidx : (queue ++ [x]).findIdx (ofB x.u) = queue.length := by
      rw [List.findIdx_append, if_neg]
      · simp [List.findIdx_cons, ofB]
      · rw [List.findIdx_lt_length]
        rintro ⟨z, hz, hb⟩
        rw [List.any_eq_false] at hq
        exact hq z hz hb
    have hget : (queue ++ [x]).getD queue.length lk0 = x := by
      rw [List.getD_eq_getElem?_getD, List.getElem?_append_right (Nat.le_refl _), Nat.sub_self]; rfl
    simp only [reqL, hv, hcov, hany, hidx, hget, eqL_refl]
set_option maxHeartbeats 2000000 in
theorem order_base (acts : List Ac) (x : Lk) (hb : (1 + acts.length) * 72 ≤ 140737488355328) : TripleF Try.prog 13 [.sc (.h 0), x.A] [.ro actK acts] (fun r _ => r = .sc (.bool true) ∧ r.below 0 = true) := by
  refine base_of_awp (R := fun r => r = .sc (.bool true)) E16_ok Try.func13 rfl (by kernel_rfl) ?_
  obtain ⟨xu, xi, xlo, xhi, xe, xx⟩ := x
  simp only [Lk.A]
  conv => whnf
  refine Cast.mk _ _ ?_
  conv => whnf
  refine Need.mk hb ?_
  conv => whnf
  refine Cast.mk _ _ ?_
  conv => whnf
  refine Br.mk (fun c1 => ?_) (fun c1 => ?_)
  · conv => whnf
  have c1 : fewA ([⟨0, ⟨xu, xi, xlo, xhi, xe, xx⟩⟩] ++ acts) 51 = true := by
    have c1 : (!fewA ([⟨0, ⟨xu, xi, xlo, xhi, xe, xx⟩⟩] ++ acts) 51) = false := c1
    simpa using c1
  have hl51 := few_len c1
  have hl50 : acts.length ≤ 50 := by simp at hl51; omega
  conv => whnf
  refine Cast.mk _ _ (Need.mk (by omega) ?_)
  conv => whnf
  have hpl := play_len acts
  refine Need.mk (by decide) (Cast.mk _ _ (Cast.mk _ _ (Need.mk ⟨by omega, by omega⟩ ?_)))
  generalize hH : (playL acts).1 = H at hpl ⊢
  generalize hQ : (playL acts).2 = Q at hpl ⊢
  conv => whnf
  refine Br.mk (fun c2 => ?_) (fun c2 => ?_)
  · conv => whnf
  have hv : validL ⟨1073741824, xi, xlo, xhi, xe, xx⟩ = true := by
    have c2 : (!validL ⟨1073741824, xi, xlo, xhi, xe, xx⟩) = false := c2
    simpa using c2
  conv => whnf
  refine Need.mk (by decide) (Cast.mk _ _ (Cast.mk _ _ (Need.mk (by omega) ?_)))
  conv => whnf
  refine Know.mk fun _ => ?_
  conv => whnf
  refine Br.mk (fun c3 => ?_) (fun c3 => ?_)
  · conv => whnf
  have hh : H.filter (ofB 1073741824) = [] := by
    have c3 : decide (((H.filter (ofB 1073741824)).length : Int) > 0) = false := c3
    simp at c3
    exact List.eq_nil_iff_forall_not_mem.2 fun y hy => by
      have := List.mem_filter.1 hy
      exact absurd this.2 (by simpa using c3 y this.1)
  conv => whnf
  refine Cast.mk _ _ ?_
  conv => whnf
  refine Need.mk (show (H.length + Q.length) * 64 ≤ 140737488355328 from by omega) ?_
  conv => whnf
  refine Know.mk fun hlen => ?_
  conv => whnf
  have hlen : (H ++ Q).length ≤ 9223372036854775807 := hlen
  refine LoopF.inv Nat (fun i => i ≤ (H ++ Q).length) (fun i => [(48, .sc (.int false .i64 (i : Int))), (8, .sc (.bool (((H ++ Q).take i).all fun y => !confL ⟨1073741824, xi, xlo, xhi, xe, xx⟩ y)))]) (fun i => (H ++ Q).length - i)
    (fun i => [.ro actK acts, .box 58 [.int true .i64 1073741824, .int false .i64 xi, .str xlo, .str xhi, .bool xe, .bool xx], .gone, .gone, .box 112 [.h 5, .h 6], .slc lockK H, .slc lockK Q, .gone, .slc lockK Q, .gone, .slc lockK (H ++ Q)]) (fun _ => Nat.le_refl _) 0 []
    (Nat.zero_le _) ⟨⟨⟨rfl, rfl⟩, ⟨rfl, rfl⟩, trivial⟩, ⟨rfl, ⟨rfl, rfl⟩, trivial, trivial, ⟨rfl, rfl⟩, rfl, rfl, trivial, rfl, trivial, rfl, trivial⟩, rfl⟩ ?_
  rintro i h1
  have hsn : i < (H ++ Q).length → ((H ++ Q).take (i + 1)).all (fun y => !confL ⟨1073741824, xi, xlo, xhi, xe, xx⟩ y) = _ := fun h => all_snoc (p := fun y => !confL ⟨1073741824, xi, xlo, xhi, xe, xx⟩ y) (d := lk0) h
  have hwhole : (H ++ Q).length ≤ i → ((H ++ Q).take i).all (fun y => !confL ⟨1073741824, xi, xlo, xhi, xe, xx⟩ y) = (H ++ Q).all (fun y => !confL ⟨1073741824, xi, xlo, xhi, xe, xx⟩ y) := fun h => by rw [List.take_of_length_le h]
  generalize ((H ++ Q).take i).all (fun y => !confL ⟨1073741824, xi, xlo, xhi, xe, xx⟩ y) = b at hsn hwhole
  conv => whnf
  refine Br.mk (fun c4 => ?_) (fun c4 => ?_)
  · have hi := ltN c4
    have hsn := hsn hi
    conv => whnf
    refine Need.mk (show 0 ≤ (i : Int) ∧ (i : Int) < ((H ++ Q).length : Nat) from ⟨by omega, by omega⟩) ?_
    conv => whnf
    refine Br.mk (fun c5 => ?_) (fun c5 => ?_)
    · have c5 : b = true := c5
      conv => whnf
      refine ⟨i + 1, [], by omega, by omega, ⟨⟨⟨rfl, wrap_succ hi hlen⟩, ⟨rfl, ?_⟩, trivial⟩, ⟨rfl, ⟨rfl, rfl⟩, trivial, trivial, ⟨rfl, rfl⟩, rfl, rfl, trivial, rfl, trivial, rfl, trivial⟩, rfl⟩, rfl⟩
      show AVal.sc (.bool (!confL ⟨1073741824, xi, xlo, xhi, xe, xx⟩ (nth (H ++ Q) i lk0))) = .sc (.bool (((H ++ Q).take (i + 1)).all (fun y => !confL ⟨1073741824, xi, xlo, xhi, xe, xx⟩ y)))
      rw [hsn, c5, Bool.true_and, nth_eq]
    · have c5 : b = false := c5
      conv => whnf
      refine ⟨i + 1, [], by omega, by omega, ⟨⟨⟨rfl, wrap_succ hi hlen⟩, ⟨rfl, ?_⟩, trivial⟩, ⟨rfl, ⟨rfl, rfl⟩, trivial, trivial, ⟨rfl, rfl⟩, rfl, rfl, trivial, rfl, trivial, rfl, trivial⟩, rfl⟩, rfl⟩
      show AVal.sc (.bool false) = .sc (.bool (((H ++ Q).take (i + 1)).all (fun y => !confL ⟨1073741824, xi, xlo, xhi, xe, xx⟩ y)))
      rw [hsn, c5, Bool.false_and]
  · have hi := geN c4
    have hwhole := hwhole hi
    conv => whnf
    refine Know.mk fun hlq => ?_
    have hlq : Q.length ≤ 9223372036854775807 := hlq
    conv => whnf
    refine LoopF.inv Nat (fun j => j ≤ Q.length ∧ (Q.take j).any (ofB 1073741824) = false) (fun j => [(62, .sc (.int false .i64 (j : Int)))]) (fun j => Q.length - j)
      (fun j => [.ro actK acts, .box 58 [.int true .i64 1073741824, .int false .i64 xi, .str xlo, .str xhi, .bool xe, .bool xx], .gone, .gone, .box 112 [.h 5, .h 6], .slc lockK H, .slc lockK Q, .gone, .slc lockK Q, .gone, .gone]) (fun _ => Nat.le_refl _) 0 []
      ⟨Nat.zero_le _, rfl⟩ ⟨⟨⟨rfl, rfl⟩, trivial⟩, ⟨rfl, ⟨rfl, rfl⟩, trivial, trivial, ⟨rfl, rfl⟩, rfl, rfl, trivial, rfl, trivial, trivial, trivial⟩, rfl⟩ ?_
    rintro j ⟨h2, h3⟩
    conv => whnf
    refine Br.mk (fun c5 => ?_) (fun c5 => ?_)
    · have hj := ltN c5
      have hsj := any_snoc (p := ofB 1073741824) hj
      conv => whnf
      refine Need.mk (show 0 ≤ (j : Int) ∧ (j : Int) < (Q.length : Nat) from ⟨by omega, by omega⟩) ?_
      conv => whnf
      refine Br.mk (fun c6 => ?_) (fun c6 => ?_)
      · conv => whnf
      · have c6 : ofB 1073741824 (nth Q j lk0) = false := c6
        rw [nth_eq] at c6
        conv => whnf
        refine ⟨j + 1, [], ⟨by omega, ?_⟩, by omega, ⟨⟨⟨rfl, wrap_succ hj hlq⟩, trivial⟩, ⟨rfl, ⟨rfl, rfl⟩, trivial, trivial, ⟨rfl, rfl⟩, rfl, rfl, trivial, rfl, trivial, trivial, trivial⟩, rfl⟩, rfl⟩
        rw [hsj, h3, c6]; rfl
    · have hj := geN c5
      rw [List.take_of_length_le hj] at h3
      obtain ⟨law1, law2⟩ := order_law hv hh h3
      rw [← hwhole] at law1 law2
      conv => whnf
      refine Need.mk (show 5 ≠ 6 by decide) (Cast.mk _ _ (Cast.mk _ _ (Need.mk (by omega) ?_)))
      conv => whnf
      refine Br.mk (fun c7 => ?_) (fun c7 => ?_)
      · have c7 : b = true := c7
        have l1 := law1 c7
        conv => whnf
        refine Br.mk (fun _ => ?_) (fun c => absurd (show ((reqL H Q ⟨1073741824, xi, xlo, xhi, xe, xx⟩).1 == 0) = false from c) (by rw [l1]; decide))
        conv => whnf
      · have c7 : b = false := c7
        obtain ⟨l1, l2⟩ := law2 c7
        conv => whnf
        refine Br.mk (fun _ => ?_) (fun c => absurd (show ((reqL H Q ⟨1073741824, xi, xlo, xhi, xe, xx⟩).1 == 15) = false from c) (by rw [l1]; show ¬ (((15 : Int) == 15) = false); decide))
        conv => whnf
        refine Need.mk (by decide) (Cast.mk _ _ (Cast.mk _ _ (Need.mk ?_ ?_)))
        · show (reqL H Q ⟨1073741824, xi, xlo, xhi, xe, xx⟩).2.1.length + (reqL H Q ⟨1073741824, xi, xlo, xhi, xe, xx⟩).2.2.length < 1048576
          rw [l1]; simp; omega
        conv => whnf
        have l3 : (reqL (reqL H Q ⟨1073741824, xi, xlo, xhi, xe, xx⟩).2.1 (reqL H Q ⟨1073741824, xi, xlo, xhi, xe, xx⟩).2.2 ⟨1073741824, xi, xlo, xhi, xe, xx⟩).1 = 15 := by rw [l1, l2]
        refine Br.mk (fun _ => ?_) (fun c => absurd (show ((reqL (reqL H Q ⟨1073741824, xi, xlo, xhi, xe, xx⟩).2.1 (reqL H Q ⟨1073741824, xi, xlo, xhi, xe, xx⟩).2.2 ⟨1073741824, xi, xlo, xhi, xe, xx⟩).1 == 15) = false from c) (by rw [l3]; decide))
        conv => whnf
end Go.Proofs.Ytljokmmgkecjbaa

namespace Go.Proofs.Ytljokmmgkecjbaa
open Go Go.AM Go.ChangeShapes Go.RowKit Go.ChangeAt Go.WideShapes
section
variable {H : Type} {enc : TypeId × Value → H} {w : World} {base : Nat} {spare : Nat → Bool} {held : Bool} {v : Value} {d : DataW H} {p : List MemPlace}
theorem slice_size {P : Program} {t e : TypeId} (ht : P.underlying t = some (.slice e)) (h : DataW.Trod enc P w base spare held t v d p) {A : Option Addr} {n c : Nat} (hv : v = .slice A n c) : n = 0 ∨ ∃ es sp, d = .slice es sp ∧ es.length = n := by
  subst hv
  obtain ⟨fuel, hf⟩ := h
  have hf : DataW.trod enc P w base spare held fuel t [.slice A n c] = some (d, p) := hf
  rcases Go.Deep.open_slice ht hf with ⟨h0, _⟩ | ⟨A', l, c', m, n', D, Pl, h0, _, _, _, _, hx, _⟩
  · cases h0; exact .inl rfl
  · cases h0
    have := congrArg Prod.fst hx
    simp only at this
    exact .inr ⟨_, _, this, by simp⟩
theorem acts_small {ts : List TypeId} {ds : List (DataW H)} (hsz : (DataW.weightsEach Try.prog ts ds).all (· ≤ reachBytes) = true) {j : Nat} (hj : ts[j]? = some 51) (hd : ds[j]? = some d) (h : DataW.Trod enc Try.prog w base spare held 51 v d p) {xs : List Ac} (hR : RoRow w (fun _ => False) actK xs v) :
    (1 + xs.length) * 72 ≤ 140737488355328 := by
  obtain ⟨A, c, hv, _⟩ := hR
  rcases slice_size Try.underlying51 h hv with h0 | ⟨es, sp, rfl, hl⟩
  · rw [h0]; decide
  · have := sized_slice hsz hj hd Try.underlying51
    have hb : Try.prog.bytesOf 60 = 72 := by kernel_rfl
    have hr : reachBytes = 140737488351232 := by kernel_rfl
    rw [hb, hr] at this
    omega
end
theorem Lk.rep (env : List Value) (l : Lk) : Rep env l.A (.agg ⟨lockK.enc l⟩) := ⟨_, rfl, _, _, rfl, rfl, _, _, rfl, rfl, _, _, rfl, rfl, _, _, rfl, rfl, _, _, rfl, rfl, _, _, rfl, rfl, rfl⟩
end Go.Proofs.Ytljokmmgkecjbaa

namespace Go.Proofs.Ytljokmmgkecjbaa.lockOrder
open Go Go.AM Go.ChangeShapes Go.WideShapes Go.ChangeAt Go.RowKit
open Go.ChangeMaps (open_string shut_string)
theorem own : ownKnob Try.prog.godebug = none := by kernel_rfl
theorem laidOut : laidOutB Try.prog = true := by kernel_rfl
theorem lifted (os : Os) (started : os.Started) (H : Type) (enc : TypeId × Value → H) :
    ReturnsInHanded {} Try.checked os 13 .any (Rows.lockOrderSpec.pre6 enc Try.prog Try.f13 Rows.lockOrderRow.domain false) (Rows.lockOrderSpec.post enc Try.prog Try.f13 false true false false) := by
  refine returnsInHanded_of_change_sized (C := Try.checked) own started (by kernel_rfl) Try.func13
    (ChangeSpec.witness6 (enc := enc) (C := Try.checked) false ⟨#[], #[.slice none 0 0, .agg #[.int .i64 0, .int .i64 0, .string ByteArray.empty, .string ByteArray.empty, .bool false, .bool false]], []⟩ 8 (by kernel_rfl) (by kernel_rfl) (by kernel_rfl) (by kernel_rfl)) ?_
  intro W base args ds gs before hval0 hW hcnd hsz0 _
  have hsz : (DataW.weightsEach Try.prog (Try.f13.params.toList ++ Rows.lockOrderSpec.plain.varTypes Try.prog) (ds ++ gs)).all (· ≤ reachBytes) = true := hsz0
  have hval : ∀ (j : Nat) t v, Try.f13.params[j]? = some t → args[j]? = some v → Value.okWide Try.prog W .any base t v := hval0
  have hW' := hW
  obtain ⟨p, q, hA0, hV, rfl, hfz, hnd⟩ := hW
  have hA : DataW.TrodAll enc Try.prog W 0 (fun _ => true) true Try.f13.params.toList args.toList ds p := hA0
  rw [Try.params13] at hA hval hsz
  obtain ⟨v0, vs0, d0, ds0, p0, q0, hargs, rfl, rfl, h0, r0⟩ := trodAll_cons hA
  obtain ⟨v1, vs1, d1, ds1, p1, q1, rfl, rfl, rfl, h1, r1⟩ := trodAll_cons r0
  obtain ⟨rfl, rfl, rfl⟩ := trodAll_nil r1
  obtain rfl : args = #[v0, v1] := by cases args; simp_all
  obtain ⟨rfl, rfl⟩ := trodVars_none hV
  have k0 := h0
  have lt0 : ∀ x ∈ p0, x.block < W.heap.size := by obtain ⟨m, hm⟩ := k0; exact DataW.trod_lt m _ _ _ hm
  obtain ⟨a0, R0⟩ := open_acts (hval 0 51 v0 rfl rfl) h0
  have o0 : v0.oneCell' = true := by obtain ⟨A, c, rfl, _⟩ := R0; rfl
  have k1 := h1
  have lt1 : ∀ x ∈ p1, x.block < W.heap.size := by obtain ⟨m, hm⟩ := k1; exact DataW.trod_lt m _ _ _ hm
  obtain ⟨a1, rfl⟩ := open_lock (hval 1 58 v1 rfl rfl) h1
  clear hA0 hval0 hsz0
  have hm : ∀ (t : Nat) (it : AM.Item) (v : Value), ([.ro actK a0] : List AM.Item)[t]? = some it → ([v0] : List Value)[t]? = some v → ∃ (K : Kind) (xs : List K.T), it = .ro K xs ∧ RoRow W (fun _ => False) K xs v := by
    intro t it v h1 h2
    match t, h1, h2 with
    | 0, h1, h2 => cases h1; cases h2; exact ⟨actK, a0, rfl, R0⟩
    | n + 1, h1, h2 => simp at h1
  refine (calls_ro (env := [v0]) (order_base a0 a1 (acts_small hsz (j := 0) rfl rfl k0 R0)) rfl W hm ⟨_, _, rfl, ⟨rfl, o0⟩, ⟨_, _, rfl, (Lk.rep _ a1), rfl⟩⟩).mono fun e W' ⟨he, bel⟩ => ?_
  subst he
  exact ⟨_, rfl, _, _, _, [], _, [], hW', trodAll_mk1 (shut_bool Try.underlying4 _), (trodAll_cons_mk (Below.trod laidOut (by kernel_rfl) (of_decide_eq_true (by kernel_rfl)) k0 bel lt0) (trodAll_cons_mk (Below.trod laidOut (by kernel_rfl) (of_decide_eq_true (by kernel_rfl)) k1 bel lt1) trodAll_mk0)), rfl, bel.frame _, fun h => by cases h⟩
theorem over : Rows.lockOrderRow.holds Try.pinned (OpenSpec.ofChange Rows.lockOrderSpec) :=
  OpenClaim.holds_of_wide 13 Try.f13 rfl rfl rfl rfl rfl rfl rfl ⟨rfl, rfl, rfl, rfl, rfl⟩ rfl rfl rfl rfl rfl (by kernel_rfl) Try.func13 (by kernel_rfl)
    (of_decide_eq_true (by kernel_rfl)) (by unfold Func.isWrapper; first | (rw [if_pos (by decide +kernel)]; kernel_rfl) | (rw [if_neg (by decide +kernel)]; exact ⟨rfl, rfl⟩))
    (fun os started H enc _ => lifted os started H enc)
theorem proved : Rows.LockOrderSaid := over
end Go.Proofs.Ytljokmmgkecjbaa.lockOrder
namespace Go.Proofs.Ytljokmmgkecjbaa
theorem lockOrder_holds : Rows.LockOrderSaid := lockOrder.proved
#print axioms lockOrder_holds
end Go.Proofs.Ytljokmmgkecjbaa
