/- Lemmas for the claim's theorem. -/
import Derived.Test.YtljokmmgkecjbaaQd
import Derived.Shelf.SlIterI.Nil
import Derived.Shelf.SortM.Plain
import Derived.Shelf.SortM.SortNone
import Derived.Ground.GgzProg
import Derived.Ground.SlgmProg
set_option linter.unusedVariables false
set_option linter.unusedSimpArgs false
set_option maxRecDepth 100000
namespace Go.Proofs.Ytljokmmgkecjbaa
open Go Go.AM
/-! more calls as effects -/
noncomputable def esOf (args : List AVal) (m : List AM.Item) : Option Eff := match args with
  | [.sc (.int _ .i64 u)] => some ⟨True, [], [], some (.box 3 [.int false .i64 u]), .sc (.fn 128 [(0, 0)])⟩
  | _ => none
theorem esOf_ok {args : List AVal} {m : List AM.Item} {e : Eff} (h : esOf args m = some e) (hn : e.need) : EffOk Try.prog 101 args m e := by
  unfold esOf at h
  split at h
  · rename_i q u
    cases h
    intro m2 hl hag
    refine TripleF.std ?_
    exact eff_add (need := True) (m := m) (of_base u) [] rfl rfl (fun m2 hag => trivial) rfl rfl (fun n => rfl) (fun n => rfl) m2 hl hag
  · cases h
noncomputable def esDel (args : List AVal) (m : List AM.Item) : Option Eff := match args with
  | [.sc (.h t), .sc (.fn 128 [(c, 0)])] => match nth m t .gone, nth m c .gone with
    | .slc K xs, .box 3 [.int false .i64 u] => some ⟨K = lockK ∧ xs.length ≤ 1048576, [c], [(t, .gone)], some (.slc lockK ((castL K xs).filter (notB u))), .sc (.h 0)⟩
    | _, _ => none
  | _ => none
theorem nth_none {m : List AM.Item} {t : Nat} (h : m.length ≤ t) : nth m t .gone = .gone := by
  rw [nth_eq, List.getD_eq_getElem?_getD, List.getElem?_eq_none h]; rfl
theorem esDel_ok {args : List AVal} {m : List AM.Item} {e : Eff} (h : esDel args m = some e) (hn : e.need) : EffOk Try.prog 100 args m e := by
  unfold esDel at h
  split at h
  · rename_i t c
    split at h
    · rename_i K xs u ht hc
      cases h
      obtain ⟨rfl, hx⟩ := hn
      have htc : t ≠ c := by intro e; subst e; rw [ht] at hc; cases hc
      have l1 := nth_lt ht (fun e => by cases e)
      have l2 := nth_lt hc (fun e => by cases e)
      refine eff_of_frame (sets := [(0, .gone)]) (new := some (.slc lockK (xs.filter (notB u)))) (DeleteFunc_base xs u hx) [t, c] rfl rfl (fun m2 hl hag => ⟨?_, rfl, ?_, trivial⟩) ?_ ?_ (fun n => rfl) (fun m2 hl hag => ?_)
      · exact (nth_agree (hag t (.inr (by simp [has])))).trans ht
      · exact (nth_agree (hag c (.inl (by simp [memb])))).trans hc
      · simp [apartP, apart1, bne_beq htc]
      · simp [Nat.blt_eq, l1, l2]
      · show (m2.set t .gone).set c (.box 3 [.int false .i64 u]) ++ [.slc lockK (xs.filter (notB u))] = m2.set t .gone ++ [.slc lockK ((castL lockK xs).filter (notB u))]
        rw [castL_eq, set_nth (m := m2.set t .gone) (t := c)]
        · rw [List.length_set, hl]; exact l2
        · rw [nth_eq, List.getD_eq_getElem?_getD, List.getElem?_set_ne htc, ← List.getD_eq_getElem?_getD, ← nth_eq]
          exact (nth_agree (hag c (.inl (by simp [memb])))).trans hc
    · cases h
  · cases h
noncomputable def esClone (args : List AVal) (m : List AM.Item) : Option Eff := match args with
  | [.sc (.h t)] => match nth m t .gone with
    | .slc K xs => some ⟨K = lockK ∧ xs.length ≤ 1048576, [t], [], some (.slc lockK (castL K xs)), .sc (.h 0)⟩
    | _ => none
  | _ => none
theorem esClone_ok {args : List AVal} {m : List AM.Item} {e : Eff} (h : esClone args m = some e) (hn : e.need) : EffOk Try.prog 95 args m e := by
  unfold esClone at h
  split at h
  · rename_i t
    split at h
    · rename_i K xs ht
      cases h
      obtain ⟨rfl, hx⟩ := hn
      have l1 := nth_lt ht (fun e => by cases e)
      intro m2 hl hag
      refine TripleF.std ?_
      refine eff_add (need := True) (m := m) (Clone_base xs hx) [t] rfl rfl (fun m2 hag => ⟨⟨lockK, xs, by rw [hag t (by simp [memb]), ht]; rfl, rfl, rfl⟩, trivial⟩) rfl (by simp [Nat.blt_eq, l1]) (fun n => by rw [castL_eq]; rfl) (fun n => rfl) m2 hl hag
    · cases h
  · cases h
/-! calls of the manager's methods -/
def waitingS (args : List AVal) (m : List AM.Item) (k : AVal → List AM.Item → Prop) : Prop := match args with
  | [.sc (.fld t 0), .sc (.int _ .i64 unit)] => mgrS t m fun a b xs ys => k (.sc (.int false .i64 (idxOf (ofB unit) ys))) m
  | _ => False
theorem waitingS_ok {args : List AVal} {m : List AM.Item} {k : AVal → List AM.Item → Prop} (h : waitingS args m k) : TripleF Try.prog 93 args m k := by
  unfold waitingS at h
  split at h
  · rename_i t _ unit
    obtain ⟨a, b, xs, ys, h, h1, h2, h3⟩ := mgrS_get h
    exact TripleF.std (frame_same (waiting_base xs ys unit) rfl [t, a, b] rfl rfl h1 h2 h3 h)
  · exact h.elim
def coveredS (args : List AVal) (m : List AM.Item) (k : AVal → List AM.Item → Prop) : Prop := match args with
  | [.sc (.fld t 0), x] => match lkOf x with
    | some l => mgrS t m fun a b xs ys => k (.sc (.bool (xs.any (covB l)))) m
    | none => False
  | _ => False
theorem coveredS_ok {args : List AVal} {m : List AM.Item} {k : AVal → List AM.Item → Prop} (h : coveredS args m k) : TripleF Try.prog 97 args m k := by
  unfold coveredS at h
  split at h
  · rename_i t x
    split at h
    · rename_i l hl
      obtain ⟨a, b, xs, ys, h, h1, h2, h3⟩ := mgrS_get h
      exact TripleF.arg (pre := [.sc (.fld t 0)]) (post := []) (fun env v => lkOf_rep hl) (frame_same (covered_base xs ys l) rfl [t, a, b] rfl rfl h1 h2 h3 h)
    · exact h.elim
  · exact h.elim
/-- slices.Delete of one -/
def delS (args : List AVal) (m : List AM.Item) (k : AVal → List AM.Item → Prop) : Prop := match args with
  | [.sc (.h t), .sc (.int _ .i64 i), .sc (.int _ .i64 j)] => match nth m t .gone with
    | .slc K1 xs => Cast (K1 := lockK) K1 xs fun xs => Need (∃ n : Nat, i = n ∧ j = ((n + 1 : Nat) : Int) ∧ n < xs.length ∧ xs.length ≤ 1048576) (setK m t .gone fun m1 => snocK m1 (.slc lockK (xs.take i.toNat ++ xs.drop (i.toNat + 1))) fun m' n => k (.sc (.h n)) m')
    | _ => False
  | _ => False
theorem delS_ok {args : List AVal} {m : List AM.Item} {k : AVal → List AM.Item → Prop} (h : delS args m k) : TripleF Try.prog 129 args m k := by
  unfold delS at h
  split at h
  · rename_i t _ i _ j
    split at h
    · rename_i K1 xs ht
      obtain ⟨xs, _, ⟨n, rfl, rfl, hn, hx⟩, h⟩ := h
      rw [setK_eq, snocK_eq, Int.toNat_natCast, List.length_set] at h
      have l1 := nth_lt ht (fun e => by cases e)
      refine TripleF.std ?_
      refine frame_eff (Delete_base xs n hn hx) [t] rfl rfl ⟨ht, trivial⟩ rfl (by simp [Nat.blt_eq, l1]) fun r m' hr hl => ?_
      obtain ⟨rfl, rfl⟩ := hr
      exact h
    · exact h.elim
  · exact h.elim
end Go.Proofs.Ytljokmmgkecjbaa

namespace Go.Proofs.Ytljokmmgkecjbaa
open Go Go.AM
noncomputable def es46 (f : FuncId) (args : List AVal) (m : List AM.Item) : Option Eff := match f with
  | 98 => esBlk args m
  | 100 => esDel args m
  | 101 => esOf args m
  | 95 => esClone args m
  | _ => none
theorem es46_ok : ∀ f args m e, es46 f args m = some e → e.need → EffOk Try.prog f args m e := by
  intro f args m e h hn
  unfold es46 at h
  split at h
  · exact esBlk_ok h hn
  · exact esDel_ok h hn
  · exact esOf_ok h hn
  · exact esClone_ok h hn
  · cases h
def sp46 (f : FuncId) (args : List AVal) (m : List AM.Item) (k : AVal → List AM.Item → Prop) : Prop := match f with
  | 62 => heldS args m k
  | 89 => confS args m k
  | 93 => waitingS args m k
  | 97 => coveredS args m k
  | 129 => delS args m k
  | _ => False
theorem sp46_ok : ∀ f args m k, sp46 f args m k → TripleF Try.prog f args m k := by
  intro f args m k h
  unfold sp46 at h
  split at h
  · exact heldS_ok h
  · exact confS_ok h
  · exact waitingS_ok h
  · exact coveredS_ok h
  · exact delS_ok h
  · exact h.elim
def effs46 (f : FuncId) : Bool := match f with
  | 98 => true
  | 100 => true
  | 101 => true
  | 95 => true
  | _ => false
noncomputable def E102 : Eng := mkEngX Try.prog kinds46 eqT qt46c sp46 noQ maps46 es46 effs46
theorem E102_ok : E102.Ok := mkEngX_ok mixedT qt46cok sp46_ok (fun _ _ _ _ _ h => by cases h) eqT_ok maps46_ok es46_ok
/-! waitsFor -/
noncomputable def waitM (held queue : List Lk) (unit : Int) : List (Int × Bool) := if queue.any (ofB unit) = true then blkM held (queue.take (queue.findIdx (ofB unit))) (queue.getD (queue.findIdx (ofB unit)) lk0) else []
theorem idx_neg {p : Lk → Bool} {xs : List Lk} (h : decide (idxOf p xs < 0) = true) : xs.any p = false := by
  unfold idxOf at h
  cases hp : xs.any p with
  | false => rfl
  | true => rw [hp, if_pos rfl] at h; simp at h; omega
theorem idx_pos {p : Lk → Bool} {xs : List Lk} (h : decide (idxOf p xs < 0) = false) : xs.any p = true ∧ idxOf p xs = ((xs.findIdx p : Nat) : Int) ∧ xs.findIdx p < xs.length := by
  unfold idxOf at h ⊢
  cases hp : xs.any p with
  | false => rw [hp] at h; simp at h
  | true => exact ⟨rfl, by rw [if_pos rfl], List.findIdx_lt_length.2 (by simpa using hp)⟩
theorem waitsFor_base (held queue : List Lk) (unit : Int) (hb : held.length ≤ 1048576) (hq : queue.length ≤ 1048576) : TripleF Try.prog 92 [.sc (.fld 0 0), .sc (.int false .i64 unit)] (mgr held queue) (fun r m' => r = .sc (.h 3) ∧ m' = mgr held queue ++ [.mp false ibM (waitM held queue unit)]) := by
  refine triple_of_awp E102_ok Try.func92 rfl (by kernel_rfl) ?_
  conv => whnf
  refine Need.mk (by decide) (Cast.mk _ _ (Cast.mk _ _ ?_))
  conv => whnf
  refine Br.mk (fun c1 => ?_) (fun c1 => ?_)
  · have hany := idx_neg c1
    conv => whnf
    refine FinF.tell (.nilM 4 ibM) _ _ (And.intro rfl rfl) ?_
    refine FinF.mk _ (.sc (.h 3)) [.box 112 [.h 1, .h 2], .slc lockK held, .slc lockK queue, .mp false ibM (waitM held queue unit)] [3] rfl rfl rfl ⟨⟨rfl, rfl⟩, rfl, rfl, ?_, trivial⟩ rfl (Nat.le_succ _) ⟨rfl, rfl⟩
    rw [waitM, hany]; rfl
  · obtain ⟨hany, hi, hl⟩ := idx_pos c1
    rw [hi]
    conv => whnf
    refine Need.mk ⟨by omega, by omega⟩ ?_
    conv => whnf
    refine Need.mk (show 0 ≤ ((queue.findIdx (ofB unit) : Nat) : Int) ∧ ((queue.findIdx (ofB unit) : Nat) : Int) ≤ queue.length from ⟨by omega, by omega⟩) ?_
    conv => whnf
    refine Need.mk (show 0 ≤ (0 : Int) ∧ (0 : Int) ≤ ((queue.findIdx (ofB unit) : Nat) : Int) from ⟨by omega, by omega⟩) ?_
    conv => whnf
    refine Need.mk (show 1 ≠ 2 ∧ lockK = lockK ∧ lockK = lockK ∧ held.length ≤ 1048576 ∧ queue.length ≤ 1048576 ∧ ((queue.findIdx (ofB unit) : Nat) : Int).toNat - 0 ≤ queue.length from ⟨by decide, rfl, rfl, hb, hq, by omega⟩) ?_
    conv => whnf
    refine Need.mk (by kernel_rfl) ?_
    conv => whnf
    refine FinF.tell (.weakM 3) _ _ (And.intro rfl rfl) ?_
    refine FinF.mk _ (.sc (.h 3)) [.box 112 [.h 1, .h 2], .slc lockK held, .slc lockK queue, .mp false ibM (waitM held queue unit)] [3] rfl rfl rfl ⟨⟨rfl, rfl⟩, rfl, rfl, ?_, trivial⟩ rfl (Nat.le_succ _) ⟨rfl, rfl⟩
    show AM.Item.mp false ibM (blkM (castL lockK held) ((castL lockK queue).take (((queue.findIdx (ofB unit) : Nat) : Int).toNat - 0)) (nth queue (((queue.findIdx (ofB unit) : Nat) : Int)).toNat lk0)) = _
    rw [castL_eq, castL_eq, Int.toNat_natCast, Nat.sub_zero, nth_eq, waitM, if_pos hany]
/-! Waits -/
def waitsL (queue : List Lk) (unit : Int) : Lk := if queue.any (ofB unit) = true then queue.getD (queue.findIdx (ofB unit)) lk0 else lk0
theorem waits_base (held queue : List Lk) (unit : Int) : TripleF Try.prog 53 [.sc (.fld 0 0), .sc (.int false .i64 unit)] (mgr held queue) (fun r m' => r = .tup [(true, (waitsL queue unit).S), (false, [.bool (queue.any (ofB unit))])] ∧ m' = mgr held queue) := by
  refine triple_of_awp E102_ok Try.func53 rfl (by kernel_rfl) ?_
  conv => whnf
  refine Need.mk (by decide) (Cast.mk _ _ (Cast.mk _ _ ?_))
  conv => whnf
  refine Br.mk (fun c1 => ?_) (fun c1 => ?_)
  · have hany := idx_neg c1
    conv => whnf
    refine FinF.mk _ (.tup [(true, lk0.S), (false, [.bool false])]) (mgr held queue) [] rfl rfl rfl ⟨⟨rfl, rfl⟩, rfl, rfl, trivial⟩ rfl (Nat.le_refl _) ⟨?_, rfl⟩
    rw [waitsL, hany]; rfl
  · obtain ⟨hany, hi, hl⟩ := idx_pos c1
    rw [hi]
    conv => whnf
    refine Need.mk ⟨by omega, by omega⟩ ?_
    conv => whnf
    refine FinF.mk _ (.tup [(true, (nth queue (((queue.findIdx (ofB unit) : Nat) : Int)).toNat lk0).S), (false, [.bool true])]) (mgr held queue) [] rfl rfl rfl ⟨⟨rfl, rfl⟩, rfl, rfl, trivial⟩ rfl (Nat.le_refl _) ⟨?_, rfl⟩
    rw [waitsL, hany, if_pos rfl, Int.toNat_natCast, nth_eq]
/-! All -/
theorem all_base (held queue : List Lk) (hb : held.length ≤ 1048576) (hq : queue.length ≤ 1048576) : TripleF Try.prog 58 [.sc (.fld 0 0)] (mgr held queue) (fun r m' => r = .tup [(false, [.h 3]), (false, [.h 4])] ∧ m' = mgr held queue ++ [.slc lockK held, .slc lockK queue]) := by
  refine triple_of_awp E102_ok Try.func58 rfl (by kernel_rfl) ?_
  conv => whnf
  refine Need.mk ⟨rfl, hb⟩ ?_
  refine Need.mk ⟨rfl, hq⟩ ?_
  refine Need.mk (by kernel_rfl) ?_
  conv => whnf
  refine FinF.mk _ (.tup [(false, [.h 3]), (false, [.h 4])]) [.box 112 [.h 1, .h 2], .slc lockK held, .slc lockK queue, .slc lockK held, .slc lockK queue] [3, 4] rfl rfl rfl ⟨⟨rfl, rfl⟩, rfl, rfl, ?_, ?_, trivial⟩ rfl ?_ ⟨rfl, rfl⟩
  · show AM.Item.slc lockK (castL lockK held) = _
    rw [castL_eq]
  · show AM.Item.slc lockK (castL lockK queue) = _
    rw [castL_eq]
  · exact Nat.le_add_right 3 2
/-! grant -/
noncomputable def grantL : List Lk → List Lk → List Lk → List Lk × List Lk × List Int
  | held, pre, [] => (held, pre, [])
  | held, pre, l :: post => match (blkM held pre l).isEmpty with
    | true => let r := grantL (held ++ [l]) pre post; (r.1, r.2.1, l.u :: r.2.2)
    | false => grantL held (pre ++ [l]) post
theorem grantL_len : ∀ (held pre post : List Lk), (grantL held pre post).1.length + (grantL held pre post).2.1.length = held.length + pre.length + post.length
  | held, pre, [] => by simp [grantL]
  | held, pre, l :: post => by
    unfold grantL
    split
    · have := grantL_len (held ++ [l]) pre post
      simp at this ⊢; omega
    · have := grantL_len held (pre ++ [l]) post
      simp at this ⊢; omega
noncomputable abbrev int55 : Kind := intK 3 .i64
structure GrS where
  held : List Lk
  pre : List Lk
  post : List Lk
  out : List Int
structure GrJ (h0 q0 : List Lk) (s : GrS) : Prop where
  hd : (grantL h0 [] q0).1 = (grantL s.held s.pre s.post).1
  qu : (grantL h0 [] q0).2.1 = (grantL s.held s.pre s.post).2.1
  out : (grantL h0 [] q0).2.2 = s.out ++ (grantL s.held s.pre s.post).2.2
  len : s.held.length + s.pre.length + s.post.length = h0.length + q0.length
  olen : s.out.length + s.post.length ≤ q0.length
theorem grant_base (held queue : List Lk) (hb : held.length + queue.length ≤ 1048576) : TripleF Try.prog 102 [.sc (.fld 0 0)] (mgr held queue) (fun r m' => r = .sc (.h 5) ∧ m' = [.box 112 [.h 3, .h 4], .gone, .gone, .slc lockK (grantL held [] queue).1, .slc lockK (grantL held [] queue).2.1, .slc int55 (grantL held [] queue).2.2]) := by
  refine triple_of_awp E102_ok Try.func102 rfl (by kernel_rfl) ?_
  conv => whnf
  refine LoopF.tell (.nilT 3 int55) _ _ (And.intro rfl rfl) ?_
  refine LoopF.inv GrS (GrJ held queue) (fun s => [(3, .sc (.h 6)), (4, .sc (.int false .i64 (s.pre.length : Int)))]) (fun s => s.post.length)
    (fun s => [.box 112 [.h 4, .h 5], .gone, .gone, .gone, .slc lockK s.held, .slc lockK (s.pre ++ s.post), .slc int55 s.out]) (fun _ => Nat.le_add_right 4 3) ⟨held, [], queue, []⟩ [1, 2, 3] ⟨rfl, rfl, rfl, by simp, by simp⟩ ⟨⟨⟨rfl, rfl⟩, ⟨rfl, rfl⟩, trivial⟩, ⟨⟨rfl, rfl⟩, trivial, trivial, trivial, rfl, rfl, rfl, trivial⟩, rfl⟩ ?_
  · rintro ⟨hs, pre, post, out⟩ ⟨Jh, Jq, Jo, Jl, Jn⟩
    simp only at Jh Jq Jo Jl Jn
    conv => whnf
    refine Know.mk fun hmax => ?_
    conv => whnf
    refine Br.mk (fun c1 => ?_) (fun c1 => ?_)
    · have c1 := ltN c1
      cases post with
      | nil => simp at c1
      | cons l post =>
        have hql : (pre ++ l :: post).length ≤ 1048576 := by simp at Jl ⊢; omega
        have hpl : pre.length < (pre ++ l :: post).length := by simp
        have hhl : hs.length ≤ 1048576 := by omega
        conv => whnf
        refine Need.mk (show 0 ≤ (pre.length : Int) ∧ (pre.length : Int) < ((pre ++ l :: post).length : Nat) from ⟨by omega, by omega⟩) ?_
        conv => whnf
        refine Need.mk (show 0 ≤ (pre.length : Int) ∧ (pre.length : Int) ≤ ((pre ++ l :: post).length : Nat) from ⟨by omega, by omega⟩) ?_
        refine Need.mk (show 0 ≤ (0 : Int) ∧ (0 : Int) ≤ (pre.length : Nat) from ⟨by omega, by omega⟩) ?_
        conv => whnf
        refine Need.mk (show 4 ≠ 5 ∧ lockK = lockK ∧ lockK = lockK ∧ hs.length ≤ 1048576 ∧ (pre ++ l :: post).length ≤ 1048576 ∧ (pre.length : Int).toNat - 0 ≤ (pre ++ l :: post).length from ⟨by decide, rfl, rfl, hhl, hql, by omega⟩) ?_
        conv => whnf
        refine Need.mk (by kernel_rfl) ?_
        conv => whnf
        have hbk : blkM (castL lockK hs) ((castL lockK (pre ++ l :: post)).take ((pre.length : Int).toNat - 0)) (nth (pre ++ l :: post) (pre.length : Int).toNat lk0) = blkM hs pre l := by
          rw [castL_eq, castL_eq, Int.toNat_natCast, Nat.sub_zero, List.take_left, nth_eq, List.getD_eq_getElem?_getD, List.getElem?_append_right (Nat.le_refl _), Nat.sub_self]; rfl
        have hwr : AVal.sc (.int false .i64 (IntKind.i64.wrap ((pre.length : Int) + 1))) = .sc (.int false .i64 (((pre ++ [l]).length : Nat) : Int)) := by
          rw [wrap_succ hpl (by omega), List.length_append]; rfl
        refine Br.mk (fun c2 => ?_) (fun c2 => ?_)
        · have c2 : decide ((blkM (castL lockK hs) ((castL lockK (pre ++ l :: post)).take ((pre.length : Int).toNat - 0)) (nth (pre ++ l :: post) (pre.length : Int).toNat lk0)).length > (0 : Int)) = true := c2
          rw [hbk] at c2
          have he : (blkM hs pre l).isEmpty = false := by
            cases hz : blkM hs pre l with
            | nil => rw [hz] at c2; simp at c2
            | cons _ _ => rfl
          have hg : grantL hs pre (l :: post) = grantL hs (pre ++ [l]) post := by rw [grantL, he]
          rw [hg] at Jh Jq Jo
          refine ⟨⟨hs, pre ++ [l], post, out⟩, [4, 5, 6], ⟨Jh, Jq, Jo, by simp at Jl ⊢; omega, by simp at Jn ⊢; omega⟩, by simp, ⟨⟨⟨rfl, rfl⟩, ⟨rfl, hwr⟩, trivial⟩, ⟨⟨rfl, rfl⟩, trivial, trivial, trivial, rfl, ?_, rfl, trivial⟩, rfl⟩, rfl⟩
          show AM.Item.slc lockK (pre ++ l :: post) = .slc lockK ((pre ++ [l]) ++ post)
          rw [List.append_assoc]; rfl
        · have c2 : decide ((blkM (castL lockK hs) ((castL lockK (pre ++ l :: post)).take ((pre.length : Int).toNat - 0)) (nth (pre ++ l :: post) (pre.length : Int).toNat lk0)).length > (0 : Int)) = false := c2
          rw [hbk] at c2
          have he : (blkM hs pre l).isEmpty = true := by
            cases hz : blkM hs pre l with
            | nil => rfl
            | cons _ _ => rw [hz] at c2; simp at c2
          have hg : grantL hs pre (l :: post) = (let r := grantL (hs ++ [l]) pre post; (r.1, r.2.1, l.u :: r.2.2)) := by rw [grantL, he]
          rw [hg] at Jh Jq Jo
          conv => whnf
          refine Cast.mk _ _ ?_
          conv => whnf
          refine Need.mk ⟨pre.length, rfl, ?_, hpl, hql⟩ ?_
          · show IntKind.i64.wrap ((pre.length : Int) + 1) = ((pre.length + 1 : Nat) : Int)
            rw [wrapI (by omega) (by omega)]; rfl
          conv => whnf
          refine Cast.mk _ _ ?_
          conv => whnf
          refine Need.mk (show (hs.length + 1) * 64 ≤ 140737488355328 from by omega) ?_
          conv => whnf
          refine Need.mk (by kernel_rfl) ?_
          conv => whnf
          refine Cast.mk _ _ ?_
          conv => whnf
          refine Need.mk (show (out.length + 1) * 8 ≤ 140737488355328 from by simp at Jn; omega) ?_
          conv => whnf
          have hnl : nth (pre ++ l :: post) (pre.length : Int).toNat lk0 = l := by
            rw [Int.toNat_natCast, nth_eq, List.getD_eq_getElem?_getD, List.getElem?_append_right (Nat.le_refl _), Nat.sub_self]; rfl
          refine ⟨⟨hs ++ [l], pre, post, out ++ [l.u]⟩, [11, 9, 13], ⟨Jh, Jq, by rw [Jo]; simp, by simp at Jl ⊢; omega, by simp at Jn ⊢; omega⟩, by simp, ⟨⟨⟨rfl, rfl⟩, ⟨rfl, rfl⟩, trivial⟩, ⟨⟨rfl, rfl⟩, trivial, trivial, trivial, ?_, ?_, ?_, trivial⟩, rfl⟩, rfl⟩
          · show AM.Item.slc lockK (hs ++ [nth (pre ++ l :: post) (pre.length : Int).toNat lk0]) = .slc lockK (hs ++ [l])
            rw [hnl]
          · show AM.Item.slc lockK ((pre ++ l :: post).take (pre.length : Int).toNat ++ (pre ++ l :: post).drop ((pre.length : Int).toNat + 1)) = .slc lockK (pre ++ post)
            rw [Int.toNat_natCast, List.take_left, ← List.drop_drop, List.drop_left]; rfl
          · show AM.Item.slc int55 (out ++ [(nth (pre ++ l :: post) (pre.length : Int).toNat lk0).u]) = .slc int55 (out ++ [l.u])
            rw [hnl]
    · have c1 := geN c1
      cases post with
      | cons l post =>
        simp at c1
        omega
      | nil =>
        conv => whnf
        refine FinF.mk _ (.sc (.h 5)) [.box 112 [.h 3, .h 4], .gone, .gone, .slc lockK (grantL held [] queue).1, .slc lockK (grantL held [] queue).2.1, .slc int55 (grantL held [] queue).2.2] [4, 5, 6] rfl rfl rfl ⟨⟨rfl, rfl⟩, trivial, trivial, ?_, ?_, ?_, trivial⟩ rfl (Nat.le_add_right 3 3) ⟨rfl, rfl⟩
        · show AM.Item.slc lockK hs = _
          rw [Jh]; rfl
        · show AM.Item.slc lockK (pre ++ []) = _
          rw [Jq, List.append_nil]; rfl
        · show AM.Item.slc int55 out = _
          rw [Jo, show (grantL hs pre []).2.2 = [] from rfl, List.append_nil]
end Go.Proofs.Ytljokmmgkecjbaa

namespace Go.Proofs.Ytljokmmgkecjbaa
open Go Go.AM
noncomputable def confQ (args : List AVal) (m : List AM.Item) : Option (Prop × AVal) := match args with
  | [.sc (.h t), x] => match lkOf x with
    | some l => match (nth m t .gone).row with
      | some ⟨K, xs⟩ => some (K = lockK, .sc (.bool (conflB (castL K xs) l)))
      | none => none
    | none => none
  | _ => none
theorem confQ_ok {args : List AVal} {m : List AM.Item} {p : Prop} {r : AVal} (h : confQ args m = some (p, r)) (hp : p) {m2 : List AM.Item} (hle : LeM m m2) : TripleF Try.prog 89 args m2 fun r' m' => r' = r ∧ m' = m2 := by
  unfold confQ at h
  split at h
  · rename_i t x
    split at h
    · rename_i l hl
      split at h
      · rename_i K xs hrow
        cases h
        cases hp
        have hn : m[t]? = some (nth m t .gone) := nth_some rfl (by intro e; rw [e] at hrow; cases hrow)
        have hn2 := hle.2 t _ hn (by
          cases hit : nth m t Item.gone with
          | gone => rw [hit] at hrow; cases hrow
          | _ => rfl)
        have hf : roFit2 m2 [.ro lockK xs] [t] := by
          refine ⟨⟨lockK, xs, ?_, rfl, rfl⟩, trivial⟩
          rw [show nth m2 t .gone = nth m t .gone from by rw [nth_eq, List.getD_eq_getElem?_getD, hn2]; rfl]
          exact hrow
        exact TripleF.arg (pre := [.sc (.h t)]) (post := []) (fun env v => lkOf_rep hl) (frame_ro2 (conflicts_base xs l) [t] rfl rfl hf fun r hr => by rw [castL_eq]; exact ⟨hr, rfl⟩)
      · cases h
    · cases h
  · cases h
noncomputable def qs46 (f : FuncId) (args : List AVal) (m : List AM.Item) : Option (Prop × AVal) := match f with
  | 89 => confQ args m
  | _ => none
theorem qs46_ok : ∀ f args m p r, qs46 f args m = some (p, r) → p → ∀ m2, LeM m m2 → TripleF Try.prog f args m2 fun r' m' => r' = r ∧ m' = m2 := by
  intro f args m p r h hp m2 hle
  unfold qs46 at h
  split at h
  · exact confQ_ok h hp hle
  · cases h
/-! a method that gives the manager other rows -/
noncomputable def turnK (t a b : Nat) (m : List AM.Item) (xs ys : List Lk) (K : List AM.Item → Nat → Prop) : Prop := setK m a .gone fun m1 => setK m1 b .gone fun m2 => snocK m2 (.slc lockK xs) fun m3 n1 => snocK m3 (.slc lockK ys) fun m4 n2 => setK m4 t (.box 112 [.h n1, .h n2]) fun m5 => K m5 (n2 + 1)
theorem turnK_eq {t a b : Nat} {m : List AM.Item} {xs ys : List Lk} {K : List AM.Item → Nat → Prop} (h1 : t ≠ a) (h2 : t ≠ b) (hl : t < m.length) (h : turnK t a b m xs ys K) : K (((m.set t (.box 112 [.h m.length, .h (m.length + 1)])).set a .gone).set b .gone ++ [.slc lockK xs, .slc lockK ys]) (m.length + 2) := by
  unfold turnK at h
  simp only [setK_eq, snocK_eq, List.length_append, List.length_set, List.length_singleton] at h
  rw [List.append_assoc, List.set_append_left _ _ (by simpa using hl), List.set_comm _ _ (Ne.symm h2), List.set_comm _ _ (Ne.symm h1)] at h
  exact h
theorem mgr_turn {f : FuncId} {args0 args : List AVal} {xs ys xs' ys' : List Lk} {r0 : AVal} {extra : List AM.Item} (hT : TripleF Try.prog f args0 (mgr xs ys) fun r m' => r = r0 ∧ m' = [.box 112 [.h 3, .h 4], .gone, .gone, .slc lockK xs', .slc lockK ys'] ++ extra)
    {t a b : Nat} {m : List AM.Item} (hargs : args = args0.map (AVal.ren fun i => nth [t, a, b] i i)) (hb : args0.all (AVal.below 3) = true)
    (h1 : takes m (fun i => nth [t, a, b] i i) 3 (mgr xs ys) [t, a, b]) (h2 : apartP (mgr xs ys) [t, a, b] = true) (h3 : [t, a, b].all (fun t => Nat.blt t m.length) = true)
    (he : ∀ h, extra.map (homeI h) = extra) {k : AVal → List AM.Item → Prop} (hk : turnK t a b m xs' ys' fun m1 n => k (r0.ren (homeF 3 m.length [t, a, b])) (m1 ++ extra)) : TripleF Try.prog f args m k := by
  have hta : t ≠ a := by intro e; subst e; have := h1.2.1; rw [h1.2.2.1] at this; cases this
  have htb : t ≠ b := by intro e; subst e; have := h1.2.1; rw [h1.2.2.2.1] at this; cases this
  have hl : t < m.length := by simp [Nat.blt_eq] at h3; exact h3.1
  have hk := turnK_eq hta htb hl hk
  refine frame_eff hT [t, a, b] hargs hb h1 h2 h3 fun r m' hr _ => ?_
  obtain ⟨rfl, rfl⟩ := hr
  rw [List.append_assoc] at hk
  have : ([.slc lockK xs', .slc lockK ys'] ++ extra : List AM.Item) = (([.box 112 [.h 3, .h 4], .gone, .gone, .slc lockK xs', .slc lockK ys'] ++ extra : List AM.Item).drop (mgr xs ys).length).map (homeI (homeF (mgr xs ys).length m.length [t, a, b])) := by
    show _ = List.map _ (.slc lockK xs' :: .slc lockK ys' :: extra)
    rw [List.map_cons, List.map_cons, he]; rfl
  rw [← this]
  exact hk
noncomputable def grantS (args : List AVal) (m : List AM.Item) (k : AVal → List AM.Item → Prop) : Prop := match args with
  | [.sc (.fld t 0)] => mgrS t m fun a b xs ys => Need (xs.length + ys.length ≤ 1048576) (turnK t a b m (grantL xs [] ys).1 (grantL xs [] ys).2.1 fun m1 n => snocK m1 (.slc int55 (grantL xs [] ys).2.2) fun m2 n2 => k (.sc (.h n2)) m2)
  | _ => False
theorem turnK_snoc {t a b : Nat} {m : List AM.Item} {xs ys : List Lk} {it : AM.Item} {k : AVal → List AM.Item → Prop} (h1 : t ≠ a) (h2 : t ≠ b) (hl : t < m.length) (h : turnK t a b m xs ys fun m1 n => snocK m1 it fun m2 n2 => k (.sc (.h n2)) m2) :
    turnK t a b m xs ys fun m1 n => k (.sc (.h (m.length + 2))) (m1 ++ [it]) := by
  have := turnK_eq h1 h2 hl h
  unfold turnK
  rw [snocK_eq] at this
  simp only [setK_eq, snocK_eq, List.length_append, List.length_set, List.length_singleton]
  rw [List.append_assoc, List.set_append_left _ _ (by simpa using hl), List.set_comm _ _ (Ne.symm h2), List.set_comm _ _ (Ne.symm h1)]
  simpa using this
theorem mgr_ne {t a b : Nat} {m : List AM.Item} {xs ys : List Lk} (h1 : takes m (fun i => nth [t, a, b] i i) 3 (mgr xs ys) [t, a, b]) (h3 : [t, a, b].all (fun t => Nat.blt t m.length) = true) : t ≠ a ∧ t ≠ b ∧ t < m.length := by
  refine ⟨?_, ?_, ?_⟩
  · intro e; subst e; have := h1.2.1; rw [h1.2.2.1] at this; cases this
  · intro e; subst e; have := h1.2.1; rw [h1.2.2.2.1] at this; cases this
  · simp [Nat.blt_eq] at h3; exact h3.1
theorem grantS_ok {args : List AVal} {m : List AM.Item} {k : AVal → List AM.Item → Prop} (h : grantS args m k) : TripleF Try.prog 102 args m k := by
  unfold grantS at h
  split at h
  · rename_i t
    obtain ⟨a, b, xs, ys, ⟨hl, h⟩, h1, h2, h3⟩ := mgrS_get h
    obtain ⟨n1, n2, n3⟩ := mgr_ne h1 h3
    exact mgr_turn (extra := [.slc int55 (grantL xs [] ys).2.2]) (grant_base xs ys hl) rfl rfl h1 h2 h3 (fun _ => rfl) (turnK_snoc n1 n2 n3 h)
  · exact h.elim
noncomputable def sp46b (f : FuncId) (args : List AVal) (m : List AM.Item) (k : AVal → List AM.Item → Prop) : Prop := match f with
  | 102 => grantS args m k
  | f => sp46 f args m k
theorem sp46b_ok : ∀ f args m k, sp46b f args m k → TripleF Try.prog f args m k := by
  intro f args m k h
  unfold sp46b at h
  split at h
  · exact grantS_ok h
  · exact sp46_ok _ _ _ _ h
noncomputable def E64 : Eng := mkEngX Try.prog kinds46 eqT qt46c sp46b qs46 maps46 es46 effs46
theorem E64_ok : E64.Ok := mkEngX_ok mixedT qt46cok sp46b_ok qs46_ok eqT_ok maps46_ok es46_ok
theorem cancel_base (held queue : List Lk) (u : Int) (hb : held.length + queue.length ≤ 1048576) : TripleF Try.prog 64 [.sc (.fld 0 0), .sc (.int false .i64 u)] (mgr held queue) (fun r m' => r = .sc (.h 5) ∧ m' = [.box 112 [.h 3, .h 4], .gone, .gone, .slc lockK (grantL held [] (queue.filter (notB u))).1, .slc lockK (grantL held [] (queue.filter (notB u))).2.1, .slc int55 (grantL held [] (queue.filter (notB u))).2.2]) := by
  refine triple_of_awp E64_ok Try.func64 rfl (by kernel_rfl) ?_
  conv => whnf
  refine Need.mk trivial ?_
  refine Need.mk ⟨rfl, by omega⟩ ?_
  conv => whnf
  refine Need.mk (by kernel_rfl) ?_
  conv => whnf
  have hcl : castL lockK queue = queue := castL_eq queue
  refine Need.mk (show 1 ≠ 4 from by decide) (Cast.mk _ _ (Cast.mk _ _ ?_))
  have hfl := List.length_filter_le (notB u) queue
  refine Need.mk (by rw [hcl]; omega) ?_
  conv => whnf
  refine FinF.mk _ (.sc (.h 5)) [.box 112 [.h 3, .h 4], .gone, .gone, .slc lockK (grantL held [] (queue.filter (notB u))).1, .slc lockK (grantL held [] (queue.filter (notB u))).2.1, .slc int55 (grantL held [] (queue.filter (notB u))).2.2] [5, 6, 7] rfl rfl rfl ⟨⟨rfl, rfl⟩, trivial, trivial, ?_, ?_, ?_, trivial⟩ rfl (Nat.le_add_right 3 3) ⟨rfl, rfl⟩
  · show AM.Item.slc lockK (grantL held [] ((castL lockK queue).filter (notB u))).1 = _
    rw [hcl]
  · show AM.Item.slc lockK (grantL held [] ((castL lockK queue).filter (notB u))).2.1 = _
    rw [hcl]
  · show AM.Item.slc int55 (grantL held [] ((castL lockK queue).filter (notB u))).2.2 = _
    rw [hcl]
noncomputable def cancelS (args : List AVal) (m : List AM.Item) (k : AVal → List AM.Item → Prop) : Prop := match args with
  | [.sc (.fld t 0), .sc (.int _ .i64 u)] => mgrS t m fun a b xs ys => Need (xs.length + ys.length ≤ 1048576) (turnK t a b m (grantL xs [] (ys.filter (notB u))).1 (grantL xs [] (ys.filter (notB u))).2.1 fun m1 n => snocK m1 (.slc int55 (grantL xs [] (ys.filter (notB u))).2.2) fun m2 n2 => k (.sc (.h n2)) m2)
  | _ => False
theorem cancelS_ok {args : List AVal} {m : List AM.Item} {k : AVal → List AM.Item → Prop} (h : cancelS args m k) : TripleF Try.prog 64 args m k := by
  unfold cancelS at h
  split at h
  · rename_i t _ u
    obtain ⟨a, b, xs, ys, ⟨hl, h⟩, h1, h2, h3⟩ := mgrS_get h
    obtain ⟨n1, n2, n3⟩ := mgr_ne h1 h3
    exact TripleF.std (mgr_turn (extra := [.slc int55 (grantL xs [] (ys.filter (notB u))).2.2]) (cancel_base xs ys u hl) rfl rfl h1 h2 h3 (fun _ => rfl) (turnK_snoc n1 n2 n3 h))
  · exact h.elim
noncomputable def sp46c (f : FuncId) (args : List AVal) (m : List AM.Item) (k : AVal → List AM.Item → Prop) : Prop := match f with
  | 64 => cancelS args m k
  | f => sp46b f args m k
theorem sp46c_ok : ∀ f args m k, sp46c f args m k → TripleF Try.prog f args m k := by
  intro f args m k h
  unfold sp46c at h
  split at h
  · exact cancelS_ok h
  · exact sp46b_ok _ _ _ _ h
noncomputable def E72 : Eng := mkEngX Try.prog kinds46 eqT qt46c sp46c qs46 maps46 es46 effs46
theorem E72_ok : E72.Ok := mkEngX_ok mixedT qt46cok sp46c_ok qs46_ok eqT_ok maps46_ok es46_ok
noncomputable def relL (held queue : List Lk) (u : Int) : List Lk × List Lk × List Int := grantL (held.filter (notB u)) [] (queue.filter (notB u))
theorem release_base (held queue : List Lk) (u : Int) (hb : held.length + queue.length ≤ 1048576) : TripleF Try.prog 72 [.sc (.fld 0 0), .sc (.int false .i64 u)] (mgr held queue) (fun r m' => r = .sc (.h 5) ∧ m' = [.box 112 [.h 3, .h 4], .gone, .gone, .slc lockK (relL held queue u).1, .slc lockK (relL held queue u).2.1, .slc int55 (relL held queue u).2.2]) := by
  refine triple_of_awp E72_ok Try.func72 rfl (by kernel_rfl) ?_
  conv => whnf
  refine Need.mk trivial ?_
  refine Need.mk ⟨rfl, by omega⟩ ?_
  conv => whnf
  refine Need.mk (by kernel_rfl) ?_
  conv => whnf
  have hcl : castL lockK held = held := castL_eq held
  refine Need.mk (show 4 ≠ 2 from by decide) (Cast.mk _ _ (Cast.mk _ _ ?_))
  have hfl := List.length_filter_le (notB u) held
  refine Need.mk (by rw [hcl]; omega) ?_
  conv => whnf
  refine FinF.mk _ (.sc (.h 5)) [.box 112 [.h 3, .h 4], .gone, .gone, .slc lockK (relL held queue u).1, .slc lockK (relL held queue u).2.1, .slc int55 (relL held queue u).2.2] [5, 6, 7] rfl rfl rfl ⟨⟨rfl, rfl⟩, trivial, trivial, ?_, ?_, ?_, trivial⟩ rfl (Nat.le_add_right 3 3) ⟨rfl, rfl⟩
  · show AM.Item.slc lockK (relL (castL lockK held) queue u).1 = _
    rw [hcl]
  · show AM.Item.slc lockK (relL (castL lockK held) queue u).2.1 = _
    rw [hcl]
  · show AM.Item.slc int55 (relL (castL lockK held) queue u).2.2 = _
    rw [hcl]
/-! New -/
def newL (xs : List Lk) : List Lk := xs.foldl (fun acc l => if (validL l && !conflB acc l) = true then acc ++ [l] else acc) []
theorem newF_le : ∀ (xs acc : List Lk), (xs.foldl (fun acc l => if (validL l && !conflB acc l) = true then acc ++ [l] else acc) acc).length ≤ acc.length + xs.length
  | [], _ => by simp
  | l :: xs, acc => by
    rw [List.foldl_cons]
    refine Nat.le_trans (newF_le xs _) ?_
    split <;> simp <;> omega
theorem newL_le (xs : List Lk) : (newL xs).length ≤ xs.length := by have := newF_le xs []; simpa [newL] using this
theorem new_nil : TripleF Try.prog 49 [.sc (.val (.slice none 0 0))] [] (fun r m' => r = .sc (.fld 0 0) ∧ m' = mgr [] []) := by
  refine triple_of_awp E72_ok Try.func49 rfl (by kernel_rfl) ?_
  conv => whnf
  refine LoopF.tell (.nilB 0 0 lockK) _ _ (And.intro rfl rfl) ?_
  refine LoopF.tell (.nilB 0 1 lockK) _ _ (And.intro rfl rfl) ?_
  refine LoopF.unroll 1 ?_
  conv => whnf
  exact FinF.mk _ (.sc (.fld 0 0)) (mgr [] []) [0, 1, 2] rfl rfl rfl ⟨⟨rfl, rfl⟩, rfl, rfl, trivial⟩ rfl (Nat.zero_le _) ⟨rfl, rfl⟩
theorem new_base (xs : List Lk) (hb : xs.length ≤ 1048576) : TripleF Try.prog 49 [.sc (.h 0)] [.ro lockK xs] (fun r m' => r = .sc (.fld 1 0) ∧ m' = [.ro lockK xs, .box 112 [.h 2, .h 3], .slc lockK (newL xs), .slc lockK []]) := by
  refine triple_of_awp E72_ok Try.func49 rfl (by kernel_rfl) ?_
  conv => whnf
  refine Know.mk fun hlen => ?_
  have hlen : xs.length ≤ 9223372036854775807 := hlen
  conv => whnf
  refine LoopF.tell (.nilB 1 0 lockK) _ _ (And.intro rfl rfl) ?_
  refine LoopF.tell (.nilB 1 1 lockK) _ _ (And.intro rfl rfl) ?_
  refine LoopF.inv Nat (fun k => k ≤ xs.length) (fun k => [(10, .sc (.int false .i64 (k : Int)))]) (fun k => xs.length - k)
    (fun k => [.ro lockK xs, .box 112 [.h 4, .h 3], .gone, .slc lockK [], .slc lockK (newL (xs.take k))]) (fun _ => Nat.le_succ _) 0 [2]
    (Nat.zero_le _) ⟨⟨⟨rfl, rfl⟩, trivial⟩, ⟨rfl, ⟨rfl, rfl⟩, trivial, rfl, rfl, trivial⟩, rfl⟩ ?_
  rintro k h1
  conv => whnf
  refine Br.mk (fun c1 => ?_) (fun c1 => ?_)
  · have hk := ltN c1
    refine Need.mk (show 0 ≤ (k : Int) ∧ (k : Int) < (xs.length : Nat) from ⟨by omega, by omega⟩) ?_
    conv => whnf
    refine Need.mk (by first | exact rfl | kernel_rfl) ?_
    conv => whnf
    refine Need.mk trivial ?_
    conv => whnf
    have hfs := foldl_snoc (f := fun acc l => if (validL l && !conflB acc l) = true then acc ++ [l] else acc) (a := ([] : List Lk)) hk
    refine Br.mk (fun c2 => ?_) (fun c2 => ?_)
    · have c2 : validL (nth xs (k : Int).toNat lk0) = true := c2
      rw [Int.toNat_natCast, nth_eq] at c2
      conv => whnf
      refine Need.mk rfl ?_
      conv => whnf
      refine Br.mk (fun c3 => ?_) (fun c3 => ?_)
      · have c3 : (!conflB (castL lockK (newL (xs.take k))) (nth xs (k : Int).toNat lk0)) = true := c3
        rw [Int.toNat_natCast, nth_eq, castL_eq] at c3
        rw [if_pos (by rw [c2]; simp only [newL] at c3; rw [c3]; rfl)] at hfs
        have hnl := newL_le (xs.take k)
        rw [List.length_take] at hnl
        conv => whnf
        refine Cast.mk _ _ ?_
        conv => whnf
        refine Need.mk (show ((newL (xs.take k)).length + 1) * 64 ≤ 140737488355328 from by omega) ?_
        conv => whnf
        refine Need.mk (by kernel_rfl) ?_
        conv => whnf
        refine ⟨k + 1, [7], by omega, by omega, ⟨⟨⟨rfl, wrap_succ hk hlen⟩, trivial⟩, ⟨rfl, ⟨rfl, rfl⟩, trivial, rfl, ?_, trivial⟩, rfl⟩, rfl⟩
        show AM.Item.slc lockK (newL (xs.take k) ++ [nth xs (k : Int).toNat lk0]) = .slc lockK (newL (xs.take (k + 1)))
        rw [Int.toNat_natCast, nth_eq]
        conv => rhs; rw [newL, hfs]
        rfl
      · have c3 : (!conflB (castL lockK (newL (xs.take k))) (nth xs (k : Int).toNat lk0)) = false := c3
        rw [Int.toNat_natCast, nth_eq, castL_eq] at c3
        rw [if_neg (by rw [c2]; simp only [newL] at c3; rw [c3]; simp)] at hfs
        conv => whnf
        refine ⟨k + 1, [4], by omega, by omega, ⟨⟨⟨rfl, wrap_succ hk hlen⟩, trivial⟩, ⟨rfl, ⟨rfl, rfl⟩, trivial, rfl, ?_, trivial⟩, rfl⟩, rfl⟩
        show AM.Item.slc lockK (newL (xs.take k)) = .slc lockK (newL (xs.take (k + 1)))
        rw [newL, newL, hfs]
    · have c2 : validL (nth xs (k : Int).toNat lk0) = false := c2
      rw [Int.toNat_natCast, nth_eq] at c2
      conv => whnf
      rw [if_neg (by rw [c2]; simp)] at hfs
      refine ⟨k + 1, [4], by omega, by omega, ⟨⟨⟨rfl, wrap_succ hk hlen⟩, trivial⟩, ⟨rfl, ⟨rfl, rfl⟩, trivial, rfl, ?_, trivial⟩, rfl⟩, rfl⟩
      show AM.Item.slc lockK (newL (xs.take k)) = .slc lockK (newL (xs.take (k + 1)))
      rw [newL, newL, hfs]
  · have c1 := geN c1
    conv => whnf
    refine FinF.mk _ (.sc (.fld 1 0)) [.ro lockK xs, .box 112 [.h 2, .h 3], .slc lockK (newL xs), .slc lockK []] [1, 4, 3] rfl rfl rfl ⟨rfl, ⟨rfl, rfl⟩, ?_, rfl, trivial⟩ rfl (Nat.le_add_right 1 3) ⟨rfl, rfl⟩
    show AM.Item.slc lockK (newL (xs.take k)) = _
    rw [List.take_of_length_le c1]
end Go.Proofs.Ytljokmmgkecjbaa

namespace Go.Proofs.Ytljokmmgkecjbaa
open Go Go.AM
/-! who waits for whom -/
def keysM (l : List (Int × Bool)) : List Int := l.map (·.1)
def edge (held queue : List Lk) (n k : Int) : Prop := k ∈ keysM (waitM held queue n)
inductive Reach (held queue : List Lk) : Int → Int → Prop where
  | refl (n : Int) : Reach held queue n n
  | step {a b c : Int} (h : edge held queue a b) (r : Reach held queue b c) : Reach held queue a c
def unitsL (held queue : List Lk) : List Int := (held ++ queue).map (·.u)
noncomputable def seenB (S : List (Int × Bool)) (n : Int) : Bool := (lookL ibM S n).getD false
noncomputable def cntU (U : List Int) (S : List (Int × Bool)) : Nat := (U.filter fun x => !seenB S x).length
theorem put_cons (a : Int) (b : Bool) (S : List (Int × Bool)) (n : Int) (v : Bool) : putL ibM ((a, b) :: S) n v = if a = n then (a, v) :: S else (a, b) :: putL ibM S n v := by
  by_cases h : a = n
  · subst h; simp [putL]
  · have : (a == n) = false := by simpa using h
    simp [putL, h, this]
theorem look_cons (a : Int) (b : Bool) (S : List (Int × Bool)) (k : Int) : lookL ibM ((a, b) :: S) k = if a = k then some b else lookL ibM S k := by
  by_cases h : a = k
  · subst h; simp [lookL]
  · have : (a == k) = false := by simpa using h
    simp [lookL, h, this]
theorem look_put (S : List (Int × Bool)) (n k : Int) (v : Bool) : lookL ibM (putL ibM S n v) k = if n = k then some v else lookL ibM S k := by
  induction S with
  | nil => rw [show putL ibM [] n v = [(n, v)] from rfl, look_cons]
  | cons p S ih =>
    obtain ⟨a, b⟩ := p
    rw [put_cons, look_cons]
    by_cases h1 : a = n
    · subst h1
      rw [if_pos rfl, look_cons]
      by_cases h2 : a = k <;> simp [h2]
    · rw [if_neg h1, look_cons, ih]
      by_cases h2 : a = k
      · subst h2; simp [Ne.symm h1]
      · simp [h2]
theorem seen_put (S : List (Int × Bool)) (n k : Int) : seenB (putL ibM S n true) k = (n == k || seenB S k) := by
  unfold seenB
  rw [look_put]
  by_cases h : n = k
  · subst h; simp
  · have : (n == k) = false := by simpa using h
    simp [h, this]
theorem keys_put (S : List (Int × Bool)) (n : Int) (v : Bool) (k : Int) : k ∈ keysM (putL ibM S n v) ↔ k = n ∨ k ∈ keysM S := by
  induction S with
  | nil => simp [putL, keysM]
  | cons p S ih =>
    obtain ⟨a, b⟩ := p
    rw [put_cons]
    by_cases h1 : a = n
    · subst h1
      simp [keysM]
    · rw [if_neg h1]
      simp only [keysM, List.map_cons, List.mem_cons] at ih ⊢
      rw [ih]
      constructor
      · rintro (h | h | h)
        · exact .inr (.inl h)
        · exact .inl h
        · exact .inr (.inr h)
      · rintro (h | h | h)
        · exact .inr (.inl h)
        · exact .inl h
        · exact .inr (.inr h)
theorem cnt_mono {U : List Int} {S S' : List (Int × Bool)} (h : ∀ x, seenB S x = true → seenB S' x = true) : cntU U S' ≤ cntU U S := by
  unfold cntU
  induction U with
  | nil => simp
  | cons u U ih =>
    simp only [List.filter_cons]
    cases h1 : seenB S u with
    | true => simp [h u h1, ih]
    | false =>
      cases h2 : seenB S' u with
      | true => simp; omega
      | false => simp; omega
theorem cnt_put {U : List Int} {S : List (Int × Bool)} {n : Int} (hn : n ∈ U) (hs : seenB S n = false) : cntU U (putL ibM S n true) < cntU U S := by
  induction U with
  | nil => cases hn
  | cons u U ih =>
    have hm := cnt_mono (U := U) (S := S) (S' := putL ibM S n true) (fun x hx => by rw [seen_put, hx]; simp)
    unfold cntU at ih hm ⊢
    simp only [List.filter_cons]
    by_cases hu : u = n
    · subst hu
      have h1 : seenB (putL ibM S u true) u = true := by rw [seen_put]; simp
      rw [h1, hs]
      simp only [Bool.not_true, Bool.false_eq_true, if_false, Bool.not_false, if_true, List.length_cons]
      omega
    · have := ih (by simpa [Ne.symm hu] using hn)
      have he : seenB (putL ibM S n true) u = seenB S u := by
        rw [seen_put]
        have : (n == u) = false := by simpa using Ne.symm hu
        rw [this]; rfl
      rw [he]
      cases seenB S u <;> simp <;> omega
theorem keys_stepA {l : Lk} : ∀ (xs : List Lk) (acc : List (Int × Bool)) (k : Int), k ∈ keysM (xs.foldl (stepA l) acc) ↔ k ∈ keysM acc ∨ ∃ x ∈ xs, confL x l = true ∧ x.u = k
  | [], acc, k => by simp
  | x :: xs, acc, k => by
    rw [List.foldl_cons, keys_stepA xs, stepA]
    split
    · rename_i hc
      rw [addK, keys_put]
      constructor
      · rintro ((rfl | h) | ⟨y, hy, h⟩)
        · exact .inr ⟨x, by simp, hc, rfl⟩
        · exact .inl h
        · exact .inr ⟨y, by simp [hy], h⟩
      · rintro (h | ⟨y, hy, h⟩)
        · exact .inl (.inr h)
        · rcases List.mem_cons.1 hy with rfl | hy
          · exact .inl (.inl h.2.symm)
          · exact .inr ⟨y, hy, h⟩
    · rename_i hc
      constructor
      · rintro (h | ⟨y, hy, h⟩)
        · exact .inl h
        · exact .inr ⟨y, by simp [hy], h⟩
      · rintro (h | ⟨y, hy, h⟩)
        · exact .inl h
        · rcases List.mem_cons.1 hy with rfl | hy
          · exact (hc h.1).elim
          · exact .inr ⟨y, hy, h⟩
theorem keys_stepB {l : Lk} {own : List Lk} : ∀ (xs : List Lk) (acc : List (Int × Bool)) (k : Int), k ∈ keysM (xs.foldl (stepB l own) acc) ↔ k ∈ keysM acc ∨ ∃ x ∈ xs, (confL x l && !conflB own x) = true ∧ x.u = k
  | [], acc, k => by simp
  | x :: xs, acc, k => by
    rw [List.foldl_cons, keys_stepB xs, stepB]
    split
    · rename_i hc
      rw [addK, keys_put]
      constructor
      · rintro ((rfl | h) | ⟨y, hy, h⟩)
        · exact .inr ⟨x, by simp, hc, rfl⟩
        · exact .inl h
        · exact .inr ⟨y, by simp [hy], h⟩
      · rintro (h | ⟨y, hy, h⟩)
        · exact .inl (.inr h)
        · rcases List.mem_cons.1 hy with rfl | hy
          · exact .inl (.inl h.2.symm)
          · exact .inr ⟨y, hy, h⟩
    · rename_i hc
      constructor
      · rintro (h | ⟨y, hy, h⟩)
        · exact .inl h
        · exact .inr ⟨y, by simp [hy], h⟩
      · rintro (h | ⟨y, hy, h⟩)
        · exact .inl h
        · rcases List.mem_cons.1 hy with rfl | hy
          · exact (hc h.1).elim
          · exact .inr ⟨y, hy, h⟩
theorem keys_blk (held before : List Lk) (l : Lk) (k : Int) : k ∈ keysM (blkM held before l) ↔ (∃ x ∈ held, confL x l = true ∧ x.u = k) ∨ ∃ x ∈ before, (confL x l && !conflB (held.filter (ofB l.u)) x) = true ∧ x.u = k := by
  rw [blkM, keys_stepB, keys_stepA]
  simp [keysM]
theorem blk_units {held queue before : List Lk} {l : Lk} {k : Int} (hb : ∀ x ∈ before, x ∈ queue) (h : k ∈ keysM (blkM held before l)) : k ∈ unitsL held queue := by
  rw [keys_blk] at h
  unfold unitsL
  rw [List.mem_map]
  rcases h with ⟨x, hx, _, rfl⟩ | ⟨x, hx, _, rfl⟩
  · exact ⟨x, by simp [hx], rfl⟩
  · exact ⟨x, by simp [hb x hx], rfl⟩
theorem edge_units {held queue : List Lk} {n k : Int} (h : edge held queue n k) : k ∈ unitsL held queue := by
  unfold edge waitM at h
  split at h
  · exact blk_units (fun x hx => List.mem_of_mem_take hx) h
  · simp [keysM] at h
/-- what a visit comes to -/
structure VPost (held queue : List Lk) (unit n : Int) (S : List (Int × Bool)) (r : Bool) (S' : List (Int × Bool)) : Prop where
  mono : ∀ x, seenB S x = true → seenB S' x = true
  yes : r = true → Reach held queue n unit
  here : r = false → seenB S' n = true
  new : r = false → ∀ x, seenB S' x = true → seenB S x = false → x ≠ unit ∧ ∀ k, edge held queue x k → seenB S' k = true
end Go.Proofs.Ytljokmmgkecjbaa

namespace Go.Proofs.Ytljokmmgkecjbaa
open Go Go.AM
inductive CastM : (M : MKind) → List (M.K × M.V) → (List (Int × Bool) → Prop) → Prop where
  | mk (ys : List (Int × Bool)) (k : List (Int × Bool) → Prop) (h : k ys) : CastM ibM ys k
noncomputable def waitsForS (args : List AVal) (m : List AM.Item) (k : AVal → List AM.Item → Prop) : Prop := match args with
  | [.sc (.fld t 0), .sc (.int _ .i64 n)] => mgrS t m fun a b xs ys => Need (xs.length ≤ 1048576 ∧ ys.length ≤ 1048576) (snocK m (.mp false ibM (waitM xs ys n)) fun m' c => k (.sc (.h c)) m')
  | _ => False
theorem waitsForS_ok {args : List AVal} {m : List AM.Item} {k : AVal → List AM.Item → Prop} (h : waitsForS args m k) : TripleF Try.prog 92 args m k := by
  unfold waitsForS at h
  split at h
  · rename_i t _ unit
    obtain ⟨a, b, xs, ys, ⟨hl, h⟩, h1, h2, h3⟩ := mgrS_get h
    rw [snocK_eq] at h
    exact TripleF.std (frame_add (waitsFor_base xs ys unit hl.1 hl.2) [t, a, b] rfl rfl h1 h2 h3 h)
  · exact h.elim
noncomputable def visitMem (unit : Int) (S : List (Int × Bool)) (held queue : List Lk) : List AM.Item := [.box 3 [.int false .i64 unit], .box 118 [.h 4], .box 53 [.fld 5 0], .box 121 [.fn 127 [(0, 0), (1, 0), (2, 0), (3, 0)]], .mp true ibM S, .box 112 [.h 6, .h 7], .slc lockK held, .slc lockK queue]
def VT (N : Nat) : Prop := ∀ held queue unit n S, held.length ≤ 1048576 → queue.length ≤ 1048576 → n ∈ unitsL held queue → cntU (unitsL held queue) S < N →
  TripleF Try.prog 127 [.sc (.int false .i64 n), .sc (.fld 0 0), .sc (.fld 1 0), .sc (.fld 2 0), .sc (.fld 3 0)] (visitMem unit S held queue) (fun r m' => ∃ b S', VPost held queue unit n S b S' ∧ r = .sc (.bool b) ∧ m' = visitMem unit S' held queue)
def visitS (N : Nat) (args : List AVal) (m : List AM.Item) (k : AVal → List AM.Item → Prop) : Prop := match args with
  | [.sc (.int _ .i64 n), .sc (.fld a 0), .sc (.fld b 0), .sc (.fld c 0), .sc (.fld d 0)] => match nth m a .gone, nth m b .gone, nth m c .gone with
    | .box 3 [.int false .i64 unit], .box 118 [.h s], .box 53 [.fld t 0] => match nth m s .gone with
      | .mp true M S => CastM M S fun S => mgrS t m fun x y xs ys => Need (nth m d .gone = .box 121 [.fn 127 [(a, 0), (b, 0), (c, 0), (d, 0)]] ∧ xs.length ≤ 1048576 ∧ ys.length ≤ 1048576 ∧ n ∈ unitsL xs ys ∧ cntU (unitsL xs ys) S < N)
        (∀ r S', VPost xs ys unit n S r S' → setK m s (.mp true ibM S') fun m' => k (.sc (.bool r)) m')
      | _ => False
    | _, _, _ => False
  | _ => False
theorem nth_ne {m : List AM.Item} {a b : Nat} {x y : AM.Item} (h1 : nth m a .gone = x) (h2 : nth m b .gone = y) (h : x ≠ y) : Nat.beq a b = false := bne_beq (fun e => h (by rw [← h1, ← h2, e]))
theorem visitS_ok {N : Nat} (hN : VT N) {args : List AVal} {m : List AM.Item} {k : AVal → List AM.Item → Prop} (h : visitS N args m k) : TripleF Try.prog 127 args m k := by
  unfold visitS at h
  split at h
  · rename_i q n a b c d
    split at h
    · rename_i unit s t ha hb hc
      split at h
      · rename_i M S hs
        obtain ⟨S, _, h⟩ := h
        obtain ⟨x, y, xs, ys, ⟨⟨hd, hx, hy, hn, hcnt⟩, h⟩, h1, h2, h3⟩ := mgrS_get h
        have ht : nth m t .gone = .box 112 [.h x, .h y] := h1.2.1
        have hx1 : nth m x .gone = .slc lockK xs := h1.2.2.1
        have hy1 : nth m y .gone = .slc lockK ys := h1.2.2.2.1
        have hxy : Nat.beq x y = false := by
          simp [apartP, apart1] at h2
          rcases h2.2 with ((h | h) | h) | h
          · exact h
          · exact nomatch (show false = true from h)
          · exact nomatch (show false = true from h)
          · exact nomatch (show true = false from h.1)
        refine TripleF.std ?_
        refine frame_eff (hN xs ys unit n S hx hy hn hcnt) [a, b, c, d, s, t, x, y] rfl rfl ⟨rfl, ha, rfl, hb, rfl, hc, rfl, hd, hs, rfl, ht, hx1, hy1, trivial⟩ ?_ ?_ fun r m' hr hl => ?_
        · have e1 := nth_ne ha hb (fun e => by cases e)
          have e2 := nth_ne ha hc (fun e => by cases e)
          have e3 := nth_ne ha hd (fun e => by cases e)
          have e4 := nth_ne ha hs (fun e => by cases e)
          have e5 := nth_ne ha ht (fun e => by cases e)
          have e6 := nth_ne ha hx1 (fun e => by cases e)
          have e7 := nth_ne ha hy1 (fun e => by cases e)
          have f2 := nth_ne hb hc (fun e => by cases e)
          have f3 := nth_ne hb hd (fun e => by cases e)
          have f4 := nth_ne hb hs (fun e => by cases e)
          have f5 := nth_ne hb ht (fun e => by cases e)
          have f6 := nth_ne hb hx1 (fun e => by cases e)
          have f7 := nth_ne hb hy1 (fun e => by cases e)
          have g3 := nth_ne hc hd (fun e => by cases e)
          have g4 := nth_ne hc hs (fun e => by cases e)
          have g5 := nth_ne hc ht (fun e => by cases e)
          have g6 := nth_ne hc hx1 (fun e => by cases e)
          have g7 := nth_ne hc hy1 (fun e => by cases e)
          have i4 := nth_ne hd hs (fun e => by cases e)
          have i5 := nth_ne hd ht (fun e => by cases e)
          have i6 := nth_ne hd hx1 (fun e => by cases e)
          have i7 := nth_ne hd hy1 (fun e => by cases e)
          have j5 := nth_ne hs ht (fun e => by cases e)
          have j6 := nth_ne hs hx1 (fun e => by cases e)
          have j7 := nth_ne hs hy1 (fun e => by cases e)
          have k6 := nth_ne ht hx1 (fun e => by cases e)
          have k7 := nth_ne ht hy1 (fun e => by cases e)
          simp only [visitMem, apartP, apart1, e1, e2, e3, e4, e5, e6, e7, f2, f3, f4, f5, f6, f7, g3, g4, g5, g6, g7, i4, i5, i6, i7, j5, j6, j7, k6, k7, hxy, Bool.not_false, Bool.true_or, Bool.and_self]
        · have l : ∀ {z : Nat} {it : AM.Item}, nth m z .gone = it → it ≠ .gone → Nat.blt z m.length = true := fun h1 h2 => by rw [Nat.blt_eq]; exact nth_lt h1 h2
          simp only [List.all_cons, List.all_nil, l ha (fun e => by cases e), l hb (fun e => by cases e), l hc (fun e => by cases e), l hd (fun e => by cases e), l hs (fun e => by cases e), l ht (fun e => by cases e), l hx1 (fun e => by cases e), l hy1 (fun e => by cases e), Bool.and_self]
        · obtain ⟨r', S', hp, rfl, rfl⟩ := hr
          have h := h r' S' hp
          rw [setK_eq] at h
          have ll : ∀ {z : Nat} {it : AM.Item}, nth m z .gone = it → it ≠ .gone → z < m.length := fun h1 h2 => nth_lt h1 h2
          have ns : ∀ {z : Nat} {it : AM.Item}, nth m z .gone = it → it ≠ .mp true ibM S → nth (m.set s (.mp true ibM S')) z .gone = it := fun h1 h2 => by
            rw [nth_eq, List.getD_eq_getElem?_getD, List.getElem?_set_ne (fun e => h2 (by rw [← h1, ← e, hs])), ← List.getD_eq_getElem?_getD, ← nth_eq]
            exact h1
          have hfin : mergeM (homeF (visitMem unit S xs ys).length m.length [a, b, c, d, s, t, x, y]) (visitMem unit S xs ys) [a, b, c, d, s, t, x, y] (visitMem unit S' xs ys) m = m.set s (.mp true ibM S') := by
            show (((((((m.set a (.box 3 [.int false .i64 unit])).set b (.box 118 [.h s])).set c (.box 53 [.fld t 0])).set d (.box 121 [.fn 127 [(a, 0), (b, 0), (c, 0), (d, 0)]])).set s (.mp true ibM S')).set t (.box 112 [.h x, .h y])).set x (.slc lockK xs)).set y (.slc lockK ys) = _
            rw [set_nth (ll ha (fun e => by cases e)) ha, set_nth (ll hb (fun e => by cases e)) hb, set_nth (ll hc (fun e => by cases e)) hc, set_nth (ll hd (fun e => by cases e)) hd]
            rw [set_nth (by rw [List.length_set]; exact ll ht (fun e => by cases e)) (ns ht (fun e => by cases e)), set_nth (by rw [List.length_set]; exact ll hx1 (fun e => by cases e)) (ns hx1 (fun e => by cases e)), set_nth (by rw [List.length_set]; exact ll hy1 (fun e => by cases e)) (ns hy1 (fun e => by cases e))]
          rw [hfin]
          show k (.sc (.bool r')) (m.set s (.mp true ibM S') ++ [])
          rw [List.append_nil]
          exact h
      · exact h.elim
    · exact h.elim
  · exact h.elim
def sp46v (N : Nat) (f : FuncId) (args : List AVal) (m : List AM.Item) (k : AVal → List AM.Item → Prop) : Prop := match f with
  | 127 => visitS N args m k
  | 92 => waitsForS args m k
  | _ => False
theorem sp46v_ok {N : Nat} (hN : VT N) : ∀ f args m k, sp46v N f args m k → TripleF Try.prog f args m k := by
  intro f args m k h
  unfold sp46v at h
  split at h
  · exact visitS_ok hN h
  · exact waitsForS_ok h
  · exact h.elim
noncomputable def E127 (N : Nat) : Eng := mkEngX Try.prog kinds46 eqT qt46c (sp46v N) noQ maps46 (fun _ _ _ => none) (fun _ => false)
theorem E127_ok {N : Nat} (hN : VT N) : (E127 N).Ok := mkEngX_ok mixedT qt46cok (sp46v_ok hN) (fun _ _ _ _ _ h => by cases h) eqT_ok maps46_ok (fun _ _ _ _ h => by cases h)
structure ViS where
  left : List (Int × Bool)
  cur : Option (Int × Bool)
  S : List (Int × Bool)
structure ViJ (held queue : List Lk) (n unit : Int) (S1 : List (Int × Bool)) (s : ViS) : Prop where
  mono : ∀ x, seenB S1 x = true → seenB s.S x = true
  done : ∀ k, edge held queue n k → seenB s.S k = true ∨ k ∈ keysM s.left
  sub : ∀ k, k ∈ keysM s.left → edge held queue n k
  new : ∀ x, seenB s.S x = true → seenB S1 x = false → x ≠ unit ∧ ∀ k, edge held queue x k → seenB s.S k = true
theorem mem_erase {α : Type} {l : List α} {i : Nat} {x y : α} (hx : x ∈ l) (hy : l[i]? = some y) (h : x ≠ y) : x ∈ l.eraseIdx i := by
  obtain ⟨j, hj, rfl⟩ := List.mem_iff_getElem.1 hx
  have hij : j ≠ i := fun e => h (by subst e; rw [List.getElem?_eq_getElem hj] at hy; exact Option.some.inj hy)
  rw [List.mem_eraseIdx_iff_getElem?]
  exact ⟨j, hij, List.getElem?_eq_getElem hj⟩
theorem visit_step {N : Nat} (hN : VT N) : VT (N + 1) := by
  intro held queue unit n S hx hy hn hcnt
  refine triple_of_awp (E127_ok hN) Try.func127 rfl (by kernel_rfl) ?_
  conv => whnf
  refine Br.mk (fun c1 => ?_) (fun c1 => ?_)
  · have c1 : (n == unit) = true := c1
    have c1 : n = unit := by simpa using c1
    conv => whnf
    refine FinF.mk _ (.sc (.bool true)) (visitMem unit S held queue) [] rfl rfl rfl ⟨⟨rfl, rfl⟩, ⟨rfl, rfl⟩, ⟨rfl, rfl⟩, ⟨rfl, rfl⟩, rfl, ⟨rfl, rfl⟩, rfl, rfl, trivial⟩ rfl (Nat.le_refl _) ⟨true, S, ⟨fun _ h => h, fun _ => c1 ▸ .refl n, fun h => (by cases h), fun h => (by cases h)⟩, rfl, rfl⟩
  · have c1 : (n == unit) = false := c1
    have c1 : n ≠ unit := by simpa using c1
    conv => whnf
    refine Need.mk rfl ?_
    conv => whnf
    refine Br.mk (fun c2 => ?_) (fun c2 => ?_)
    · have c2 : seenB S n = true := c2
      conv => whnf
      refine FinF.mk _ (.sc (.bool false)) (visitMem unit S held queue) [] rfl rfl rfl ⟨⟨rfl, rfl⟩, ⟨rfl, rfl⟩, ⟨rfl, rfl⟩, ⟨rfl, rfl⟩, rfl, ⟨rfl, rfl⟩, rfl, rfl, trivial⟩ rfl (Nat.le_refl _) ⟨false, S, ⟨fun _ h => h, fun h => (by cases h), fun _ => c2, fun _ x h1 h2 => (by rw [h1] at h2; cases h2)⟩, rfl, rfl⟩
    · have c2 : seenB S n = false := c2
      have hput := cnt_put hn c2
      conv => whnf
      refine Need.mk rfl ?_
      conv => whnf
      refine Need.mk (show 6 ≠ 7 by decide) (Cast.mk _ _ (Cast.mk _ _ (Need.mk ⟨hx, hy⟩ ?_)))
      conv => whnf
      refine Need.mk rfl ?_
      conv => whnf
      refine LoopF.inv ViS (ViJ held queue n unit (putL ibM S n true)) (fun s => []) (fun s => s.left.length)
        (fun s => [.box 3 [.int false .i64 unit], .box 118 [.h 4], .box 53 [.fld 5 0], .box 121 [.fn 127 [(0, 0), (1, 0), (2, 0), (3, 0)]], .mp true ibM s.S, .box 112 [.h 6, .h 7], .slc lockK held, .slc lockK queue, .gone, .itm ibM s.left s.cur])
        (fun _ => Nat.le_refl _) ⟨waitM held queue n, none, putL ibM S n true⟩ [] ⟨fun _ h => h, fun k h => .inr h, fun k h => h, fun x h1 h2 => (by rw [h1] at h2; cases h2)⟩ ⟨trivial, ⟨⟨rfl, rfl⟩, ⟨rfl, rfl⟩, ⟨rfl, rfl⟩, ⟨rfl, rfl⟩, rfl, ⟨rfl, rfl⟩, rfl, rfl, trivial, rfl, trivial⟩, rfl⟩ ?_
      rintro ⟨left, cur, T⟩ ⟨J1, J2, J3, J4⟩
      simp only at J1 J2 J3 J4
      conv => whnf
      refine Pick.mk (fun hover => ?_) (fun i y hy1 => ?_)
      · have hover : left = [] := hover
        subst hover
        conv => whnf
        refine FinF.mk _ (.sc (.bool false)) (visitMem unit T held queue) [] rfl rfl rfl ⟨⟨rfl, rfl⟩, ⟨rfl, rfl⟩, ⟨rfl, rfl⟩, ⟨rfl, rfl⟩, rfl, ⟨rfl, rfl⟩, rfl, rfl, trivial⟩ rfl (Nat.le_refl _) ⟨false, T, ⟨fun x h => J1 x (by rw [seen_put, h]; simp), fun h => (by cases h), fun _ => J1 n (by rw [seen_put]; simp), fun _ x h1 h2 => ?_⟩, rfl, rfl⟩
        by_cases hxn : n = x
        · subst hxn
          exact ⟨c1, fun k hk => (J2 k hk).resolve_right (by simp [keysM])⟩
        · have : (n == x) = false := by simpa using hxn
          exact J4 x h1 (by rw [seen_put, h2, this]; rfl)
      · have hmem : y ∈ left := List.mem_of_getElem? hy1
        have hkey : edge held queue n y.1 := J3 y.1 (List.mem_map.2 ⟨y, hmem, rfl⟩)
        have hil : i < left.length := (List.getElem?_eq_some_iff.1 hy1).1
        conv => whnf
        refine CastM.mk _ _ ?_
        refine Need.mk (show 6 ≠ 7 by decide) (Cast.mk _ _ (Cast.mk _ _ (Need.mk ⟨rfl, hx, hy, edge_units hkey, Nat.lt_of_le_of_lt (cnt_mono J1) (by omega)⟩ ?_)))
        intro r S' hp
        conv => whnf
        refine Br.mk (fun c3 => ?_) (fun c3 => ?_)
        · have c3 : r = true := c3
          conv => whnf
          refine FinF.mk _ (.sc (.bool true)) (visitMem unit S' held queue) [] rfl rfl rfl ⟨⟨rfl, rfl⟩, ⟨rfl, rfl⟩, ⟨rfl, rfl⟩, ⟨rfl, rfl⟩, rfl, ⟨rfl, rfl⟩, rfl, rfl, trivial⟩ rfl (Nat.le_refl _) ⟨true, S', ⟨fun x h => hp.mono x (J1 x (by rw [seen_put, h]; simp)), fun _ => .step hkey (hp.yes c3), fun h => (by cases h), fun h => (by cases h)⟩, rfl, rfl⟩
        · have c3 : r = false := c3
          conv => whnf
          refine ⟨⟨left.eraseIdx i, some y, S'⟩, [], ⟨fun x h => hp.mono x (J1 x h), fun k hk => ?_, fun k hk => ?_, fun x h1 h2 => ?_⟩, ?_, ⟨trivial, ⟨⟨rfl, rfl⟩, ⟨rfl, rfl⟩, ⟨rfl, rfl⟩, ⟨rfl, rfl⟩, rfl, ⟨rfl, rfl⟩, rfl, rfl, trivial, rfl, trivial⟩, rfl⟩, rfl⟩
          · rcases J2 k hk with h | h
            · exact .inl (hp.mono k h)
            · obtain ⟨p, hpm, rfl⟩ := List.mem_map.1 h
              by_cases hpy : p.1 = y.1
              · rw [hpy]; exact .inl (hp.here c3)
              · refine .inr (List.mem_map.2 ⟨p, ?_, rfl⟩)
                exact mem_erase hpm hy1 (fun e => hpy (by rw [e]))
          · obtain ⟨p, hpm, rfl⟩ := List.mem_map.1 hk
            exact J3 _ (List.mem_map.2 ⟨p, List.mem_of_mem_eraseIdx hpm, rfl⟩)
          · simp only at h1 ⊢
            cases hT : seenB T x with
            | false => exact hp.new c3 x h1 hT
            | true =>
              obtain ⟨g1, g2⟩ := J4 x hT h2
              exact ⟨g1, fun k hk => hp.mono k (g2 k hk)⟩
          · simp only
            rw [List.length_eraseIdx_of_lt hil]
            omega
theorem visit_all : ∀ N, VT N
  | 0 => fun _ _ _ _ _ _ _ _ h => absurd h (Nat.not_lt_zero _)
  | N + 1 => visit_step (visit_all N)
end Go.Proofs.Ytljokmmgkecjbaa

namespace Go.Proofs.Ytljokmmgkecjbaa
open Go Go.AM
open Classical in
noncomputable def reachB (held queue : List Lk) (B : List (Int × Bool)) (unit : Int) : Bool := decide (∃ k ∈ keysM B, Reach held queue k unit)
open Classical in
theorem reach_yes {held queue : List Lk} {B : List (Int × Bool)} {unit : Int} : reachB held queue B unit = true ↔ ∃ k ∈ keysM B, Reach held queue k unit := by
  unfold reachB
  simp only [decide_eq_true_eq]
theorem reach_no {held queue : List Lk} {B : List (Int × Bool)} {unit : Int} (h : ¬ ∃ k ∈ keysM B, Reach held queue k unit) : reachB held queue B unit = false := by
  cases hr : reachB held queue B unit with
  | false => rfl
  | true => exact (h (reach_yes.1 hr)).elim
structure ReJ (held queue : List Lk) (B : List (Int × Bool)) (unit : Int) (s : ViS) : Prop where
  done : ∀ k ∈ keysM B, seenB s.S k = true ∨ k ∈ keysM s.left
  sub : ∀ k, k ∈ keysM s.left → k ∈ keysM B
  new : ∀ x, seenB s.S x = true → x ≠ unit ∧ ∀ k, edge held queue x k → seenB s.S k = true
theorem closed_no {held queue : List Lk} {unit : Int} {S : List (Int × Bool)} (h : ∀ x, seenB S x = true → x ≠ unit ∧ ∀ k, edge held queue x k → seenB S k = true) {a b : Int} (hr : Reach held queue a b) (ha : seenB S a = true) : b ≠ unit := by
  induction hr with
  | refl n => exact (h n ha).1
  | step he _ ih => exact ih ((h _ ha).2 _ he)
theorem cntU_le (U : List Int) (S : List (Int × Bool)) : cntU U S ≤ U.length := List.length_filter_le _ _
theorem reaches_base (held queue : List Lk) (B : List (Int × Bool)) (unit : Int) (hx : held.length ≤ 1048576) (hy : queue.length ≤ 1048576) (hB : ∀ k ∈ keysM B, k ∈ unitsL held queue) :
    TripleF Try.prog 99 [.sc (.fld 0 0), .sc (.h 3), .sc (.int false .i64 unit)] (mgr held queue ++ [.mp true ibM B]) (fun r m' => r = .sc (.bool (reachB held queue B unit)) ∧ m' = mgr held queue ++ [.gone]) := by
  refine triple_of_awp (E127_ok (visit_all ((unitsL held queue).length + 1))) Try.func99 rfl (by kernel_rfl) ?_
  conv => whnf
  refine Need.mk rfl ?_
  conv => whnf
  refine LoopF.inv ViS (ReJ held queue B unit) (fun s => []) (fun s => s.left.length)
        (fun s => [.box 112 [.h 1, .h 2], .slc lockK held, .slc lockK queue, .gone, .box 53 [.fld 0 0], .box 3 [.int false .i64 unit], .mp true ibM s.S, .box 118 [.h 6], .box 121 [.fn 127 [(5, 0), (7, 0), (4, 0), (8, 0)]], .itm ibM s.left s.cur])
        (fun _ => Nat.le_refl _) ⟨B, none, []⟩ [] ⟨fun k h => .inr h, fun k h => h, fun x h1 => (by cases h1)⟩ ⟨trivial, ⟨⟨rfl, rfl⟩, rfl, rfl, trivial, ⟨rfl, rfl⟩, ⟨rfl, rfl⟩, rfl, ⟨rfl, rfl⟩, ⟨rfl, rfl⟩, rfl, trivial⟩, rfl⟩ ?_
  rintro ⟨left, cur, T⟩ ⟨J2, J3, J4⟩
  simp only at J2 J3 J4
  conv => whnf
  refine Pick.mk (fun hover => ?_) (fun i y hy1 => ?_)
  · have hover : left = [] := hover
    subst hover
    conv => whnf
    have hno : reachB held queue B unit = false := by
      refine reach_no ?_
      rintro ⟨k, hk, hr⟩
      exact closed_no J4 hr ((J2 k hk).resolve_right (by simp [keysM])) rfl
    rw [hno]
    exact FinF.mk _ (.sc (.bool false)) [.box 112 [.h 1, .h 2], .slc lockK held, .slc lockK queue, .gone] [] rfl rfl rfl ⟨⟨rfl, rfl⟩, rfl, rfl, trivial, trivial⟩ rfl (Nat.le_refl _) ⟨rfl, rfl⟩
  · have hmem : y ∈ left := List.mem_of_getElem? hy1
    have hkey : y.1 ∈ keysM B := J3 y.1 (List.mem_map.2 ⟨y, hmem, rfl⟩)
    have hil : i < left.length := (List.getElem?_eq_some_iff.1 hy1).1
    conv => whnf
    refine CastM.mk _ _ ?_
    refine Need.mk (show 1 ≠ 2 by decide) (Cast.mk _ _ (Cast.mk _ _ (Need.mk ⟨rfl, hx, hy, hB _ hkey, Nat.lt_succ_of_le (cntU_le _ _)⟩ ?_)))
    intro r S' hp
    conv => whnf
    refine Br.mk (fun c3 => ?_) (fun c3 => ?_)
    · have c3 : r = true := c3
      have hyes : reachB held queue B unit = true := reach_yes.2 ⟨y.1, hkey, hp.yes c3⟩
      conv => whnf
      rw [hyes]
      exact FinF.mk _ (.sc (.bool true)) [.box 112 [.h 1, .h 2], .slc lockK held, .slc lockK queue, .gone] [] rfl rfl rfl ⟨⟨rfl, rfl⟩, rfl, rfl, trivial, trivial⟩ rfl (Nat.le_refl _) ⟨rfl, rfl⟩
    · have c3 : r = false := c3
      conv => whnf
      refine ⟨⟨left.eraseIdx i, some y, S'⟩, [], ⟨fun k hk => ?_, fun k hk => ?_, fun x h1 => ?_⟩, ?_, ⟨trivial, ⟨⟨rfl, rfl⟩, rfl, rfl, trivial, ⟨rfl, rfl⟩, ⟨rfl, rfl⟩, rfl, ⟨rfl, rfl⟩, ⟨rfl, rfl⟩, rfl, trivial⟩, rfl⟩, rfl⟩
      · rcases J2 k hk with h | h
        · exact .inl (hp.mono k h)
        · obtain ⟨p, hpm, rfl⟩ := List.mem_map.1 h
          by_cases hpy : p.1 = y.1
          · rw [hpy]; exact .inl (hp.here c3)
          · refine .inr (List.mem_map.2 ⟨p, ?_, rfl⟩)
            exact mem_erase hpm hy1 (fun e => hpy (by rw [e]))
      · obtain ⟨p, hpm, rfl⟩ := List.mem_map.1 hk
        exact J3 _ (List.mem_map.2 ⟨p, List.mem_of_mem_eraseIdx hpm, rfl⟩)
      · simp only at h1 ⊢
        cases hT : seenB T x with
        | false => exact hp.new c3 x h1 hT
        | true =>
          obtain ⟨g1, g2⟩ := J4 x hT
          exact ⟨g1, fun k hk => hp.mono k (g2 k hk)⟩
      · simp only
        rw [List.length_eraseIdx_of_lt hil]
        omega
end Go.Proofs.Ytljokmmgkecjbaa

namespace Go.Proofs.Ytljokmmgkecjbaa
open Go Go.AM
noncomputable def reachesS (args : List AVal) (m : List AM.Item) (k : AVal → List AM.Item → Prop) : Prop := match args with
  | [.sc (.fld t 0), .sc (.h s), .sc (.int _ .i64 u)] => match nth m s .gone with
    | .mp true M B => CastM M B fun B => mgrS t m fun a b xs ys => Need (xs.length ≤ 1048576 ∧ ys.length ≤ 1048576 ∧ ∀ k ∈ keysM B, k ∈ unitsL xs ys) (setK m s .gone fun m' => k (.sc (.bool (reachB xs ys B u))) m')
    | _ => False
  | _ => False
theorem reachesS_ok {args : List AVal} {m : List AM.Item} {k : AVal → List AM.Item → Prop} (h : reachesS args m k) : TripleF Try.prog 99 args m k := by
  unfold reachesS at h
  split at h
  · rename_i t s _ u
    split at h
    · rename_i M B hs
      obtain ⟨B, _, h⟩ := h
      obtain ⟨a, b, xs, ys, ⟨⟨hx, hy, hB⟩, h⟩, h1, h2, h3⟩ := mgrS_get h
      have ht : nth m t .gone = .box 112 [.h a, .h b] := h1.2.1
      have ha : nth m a .gone = .slc lockK xs := h1.2.2.1
      have hb : nth m b .gone = .slc lockK ys := h1.2.2.2.1
      have hab : Nat.beq a b = false := by
        simp [apartP, apart1] at h2
        rcases h2.2 with ((h | h) | h) | h
        · exact h
        · exact nomatch (show false = true from h)
        · exact nomatch (show false = true from h)
        · exact nomatch (show true = false from h.1)
      have e1 := nth_ne ht ha (fun e => by cases e)
      have e2 := nth_ne ht hb (fun e => by cases e)
      have e3 := nth_ne ht hs (fun e => by cases e)
      have e4 := nth_ne ha hs (fun e => by cases e)
      have e5 := nth_ne hb hs (fun e => by cases e)
      have l : ∀ {z : Nat} {it : AM.Item}, nth m z .gone = it → it ≠ .gone → Nat.blt z m.length = true := fun h1 h2 => by rw [Nat.blt_eq]; exact nth_lt h1 h2
      have ll : ∀ {z : Nat} {it : AM.Item}, nth m z .gone = it → it ≠ .gone → z < m.length := fun h1 h2 => nth_lt h1 h2
      refine TripleF.std ?_
      refine frame_eff (reaches_base xs ys B u hx hy hB) [t, a, b, s] rfl rfl ⟨rfl, ht, ha, hb, hs, trivial⟩ ?_ ?_ fun r m' hr hl => ?_
      · simp only [mgr, List.cons_append, List.nil_append, apartP, apart1, e1, e2, e3, e4, e5, hab, Bool.not_false, Bool.true_or, Bool.and_self]
      · simp only [List.all_cons, List.all_nil, l ht (fun e => by cases e), l ha (fun e => by cases e), l hb (fun e => by cases e), l hs (fun e => by cases e), Bool.and_self]
      · obtain ⟨rfl, rfl⟩ := hr
        rw [setK_eq] at h
        show k (.sc (.bool (reachB xs ys B u))) ((((m.set t (.box 112 [.h a, .h b])).set a (.slc lockK xs)).set b (.slc lockK ys)).set s .gone ++ [])
        rw [set_nth (ll ht (fun e => by cases e)) ht, set_nth (ll ha (fun e => by cases e)) ha, set_nth (ll hb (fun e => by cases e)) hb, List.append_nil]
        exact h
    · exact h.elim
  · exact h.elim
noncomputable def sp46r (f : FuncId) (args : List AVal) (m : List AM.Item) (k : AVal → List AM.Item → Prop) : Prop := match f with
  | 99 => reachesS args m k
  | f => sp46c f args m k
theorem sp46r_ok : ∀ f args m k, sp46r f args m k → TripleF Try.prog f args m k := by
  intro f args m k h
  unfold sp46r at h
  split at h
  · exact reachesS_ok h
  · exact sp46c_ok _ _ _ _ h
noncomputable def E63 : Eng := mkEngX Try.prog kinds46 eqT qt46c sp46r qs46 maps46 es46 effs46
theorem E63_ok : E63.Ok := mkEngX_ok mixedT qt46cok sp46r_ok qs46_ok eqT_ok maps46_ok es46_ok
def eqL (a b : Lk) : Bool := (a.u == b.u) && (a.i == b.i) && (sEq a.lo b.lo && sEq a.hi b.hi && (a.e == b.e)) && (a.x == b.x)
noncomputable def askL (held queue : List Lk) (l : Lk) : Int × List Lk × List Lk :=
  match (blkM held queue l).isEmpty with
  | true => (0, held ++ [l], queue)
  | false => match reachB held queue (blkM held queue l) l.u with
    | true => (16, held, queue)
    | false => (15, held, queue ++ [l])
noncomputable def reqL (held queue : List Lk) (l : Lk) : Int × List Lk × List Lk :=
  match validL l with
  | false => (1, held, queue)
  | true => match held.any (covB l) with
    | true => (0, held, queue)
    | false => match queue.any (ofB l.u) with
      | false => askL held queue l
      | true => match eqL (queue.getD (queue.findIdx (ofB l.u)) lk0) l with
        | true => (15, held, queue)
        | false => askL (grantL held [] (queue.filter (notB l.u))).1 (grantL held [] (queue.filter (notB l.u))).2.1 l
theorem idxG {p : Lk → Bool} {xs : List Lk} (h : decide (0 ≤ idxOf p xs) = true) : xs.any p = true ∧ idxOf p xs = ((xs.findIdx p : Nat) : Int) ∧ xs.findIdx p < xs.length := by
  refine idx_pos ?_
  simp at h ⊢; omega
theorem idx_lt {p : Lk → Bool} {xs : List Lk} (h : decide (0 ≤ idxOf p xs) = false) : xs.any p = false := by
  refine idx_neg ?_
  simp at h ⊢; omega
theorem request_base (held queue : List Lk) (l : Lk) (hb : held.length + queue.length < 1048576) : TripleF Try.prog 63 [.sc (.fld 0 0), l.A] (mgr held queue) (fun r m' => r = .sc (.int false .i64 (reqL held queue l).1) ∧ m' = [.box 112 [.h 3, .h 4], .gone, .gone, .slc lockK (reqL held queue l).2.1, .slc lockK (reqL held queue l).2.2]) := by
  refine triple_of_awp E63_ok Try.func63 rfl (by kernel_rfl) ?_
  obtain ⟨u, i, lo, hi, e, x⟩ := l
  simp only [Lk.A]
  conv => whnf
  refine Br.mk (fun c1 => ?_) (fun c1 => ?_)
  · have c1 : validL ⟨u, i, lo, hi, e, x⟩ = false := by
      have c1 : (!validL ⟨u, i, lo, hi, e, x⟩) = true := c1
      simpa using c1
    conv => whnf
    have hr : reqL held queue ⟨u, i, lo, hi, e, x⟩ = (1, held, queue) := by rw [reqL, c1]
    rw [hr]
    exact FinF.mk _ (.sc (.int false .i64 1)) [.box 112 [.h 3, .h 4], .gone, .gone, .slc lockK held, .slc lockK queue] [1, 2] rfl rfl rfl ⟨⟨rfl, rfl⟩, trivial, trivial, rfl, rfl, trivial⟩ rfl (Nat.le_add_right 3 2) ⟨rfl, rfl⟩
  · have c1 : validL ⟨u, i, lo, hi, e, x⟩ = true := by
      have c1 : (!validL ⟨u, i, lo, hi, e, x⟩) = false := c1
      simpa using c1
    conv => whnf
    refine Need.mk (show 1 ≠ 2 by decide) (Cast.mk _ _ (Cast.mk _ _ ?_))
    conv => whnf
    refine Br.mk (fun c2 => ?_) (fun c2 => ?_)
    · have c2 : held.any (covB ⟨u, i, lo, hi, e, x⟩) = true := c2
      conv => whnf
      have hr : reqL held queue ⟨u, i, lo, hi, e, x⟩ = (0, held, queue) := by rw [reqL, c1, c2]
      rw [hr]
      exact FinF.mk _ (.sc (.int false .i64 0)) [.box 112 [.h 3, .h 4], .gone, .gone, .slc lockK held, .slc lockK queue] [1, 2] rfl rfl rfl ⟨⟨rfl, rfl⟩, trivial, trivial, rfl, rfl, trivial⟩ rfl (Nat.le_add_right 3 2) ⟨rfl, rfl⟩
    · have c2 : held.any (covB ⟨u, i, lo, hi, e, x⟩) = false := c2
      conv => whnf
      refine Need.mk (show 1 ≠ 2 by decide) (Cast.mk _ _ (Cast.mk _ _ ?_))
      conv => whnf
      refine Br.mk (fun c3 => ?_) (fun c3 => ?_)
      · obtain ⟨hany, hidx, hlt⟩ := idxG c3
        rw [hidx]
        conv => whnf
        refine Need.mk (by kernel_rfl) ?_
        conv => whnf
        refine Need.mk (show 0 ≤ ((queue.findIdx (ofB u) : Nat) : Int) ∧ ((queue.findIdx (ofB u) : Nat) : Int) < queue.length from ⟨by omega, by omega⟩) ?_
        conv => whnf
        refine Br.mk (fun c6 => ?_) (fun c6 => ?_)
        · have c6 : eqL (nth queue ((queue.findIdx (ofB u) : Nat) : Int).toNat lk0) ⟨u, i, lo, hi, e, x⟩ = true := c6
          rw [Int.toNat_natCast, nth_eq] at c6
          have hr : reqL held queue ⟨u, i, lo, hi, e, x⟩ = (15, held, queue) := by simp only [reqL, c1, c2, hany, c6]
          rw [hr]
          conv => whnf
          exact FinF.mk _ (.sc (.int false .i64 15)) [.box 112 [.h 3, .h 4], .gone, .gone, .slc lockK held, .slc lockK queue] [1, 2] rfl rfl rfl ⟨⟨rfl, rfl⟩, trivial, trivial, rfl, rfl, trivial⟩ rfl (Nat.le_add_right 3 2) ⟨rfl, rfl⟩
        · have c6 : eqL (nth queue ((queue.findIdx (ofB u) : Nat) : Int).toNat lk0) ⟨u, i, lo, hi, e, x⟩ = false := c6
          rw [Int.toNat_natCast, nth_eq] at c6
          conv => whnf
          refine Need.mk (show 1 ≠ 2 by decide) (Cast.mk _ _ (Cast.mk _ _ (Need.mk (by omega) ?_)))
          have hr : reqL held queue ⟨u, i, lo, hi, e, x⟩ = askL (grantL held [] (queue.filter (notB u))).1 (grantL held [] (queue.filter (notB u))).2.1 ⟨u, i, lo, hi, e, x⟩ := by simp only [reqL, c1, c2, hany, c6]
          have hgl := grantL_len held [] (queue.filter (notB u))
          have hfl := List.length_filter_le (notB u) queue
          simp only [List.length_nil] at hgl
          generalize (grantL held [] (queue.filter (notB u))).1 = xs at hr hgl ⊢
          generalize (grantL held [] (queue.filter (notB u))).2.1 = ys at hr hgl ⊢
          conv => whnf
          refine Need.mk (show 4 ≠ 5 ∧ lockK = lockK ∧ lockK = lockK ∧ xs.length ≤ 1048576 ∧ ys.length ≤ 1048576 from ⟨by decide, rfl, rfl, by omega, by omega⟩) ?_
          conv => whnf
          refine Need.mk (by kernel_rfl) ?_
          conv => whnf
          have hcl : blkM (castL lockK xs) (castL lockK ys) ⟨u, i, lo, hi, e, x⟩ = blkM xs ys ⟨u, i, lo, hi, e, x⟩ := by rw [castL_eq, castL_eq]
          skip
          refine Br.mk (fun c4 => ?_) (fun c4 => ?_)
          · have c4 : (((blkM (castL lockK xs) (castL lockK ys) ⟨u, i, lo, hi, e, x⟩).length : Int) == 0) = true := c4
            rw [hcl] at c4
            have he : (blkM xs ys ⟨u, i, lo, hi, e, x⟩).isEmpty = true := by
              cases hz : blkM xs ys ⟨u, i, lo, hi, e, x⟩ with
              | nil => rfl
              | cons _ _ => rw [hz] at c4; simp at c4; omega
            have hr2 : askL xs ys ⟨u, i, lo, hi, e, x⟩ = (0, xs ++ [⟨u, i, lo, hi, e, x⟩], ys) := by rw [askL, he]
            rw [hr, hr2]
            conv => whnf
            refine Cast.mk _ _ ?_
            conv => whnf
            refine Need.mk (show (xs.length + 1) * 64 ≤ 140737488355328 from by omega) ?_
            conv => whnf
            refine Need.mk (by kernel_rfl) ?_
            conv => whnf
            exact FinF.mk _ (.sc (.int false .i64 0)) [.box 112 [.h 3, .h 4], .gone, .gone, .slc lockK (xs ++ [⟨u, i, lo, hi, e, x⟩]), .slc lockK ys] [9, 5] rfl rfl rfl ⟨⟨rfl, rfl⟩, trivial, trivial, rfl, rfl, trivial⟩ rfl (Nat.le_add_right 3 2) ⟨rfl, rfl⟩
          · have c4 : (((blkM (castL lockK xs) (castL lockK ys) ⟨u, i, lo, hi, e, x⟩).length : Int) == 0) = false := c4
            rw [hcl] at c4
            have he : (blkM xs ys ⟨u, i, lo, hi, e, x⟩).isEmpty = false := by
              cases hz : blkM xs ys ⟨u, i, lo, hi, e, x⟩ with
              | nil => rw [hz] at c4; simp at c4
              | cons _ _ => rfl
            conv => whnf
            refine CastM.mk _ _ ?_
            refine Need.mk (show 4 ≠ 5 by decide) (Cast.mk _ _ (Cast.mk _ _ (Need.mk ⟨by omega, by omega, fun k hk => ?_⟩ ?_)))
            · have hk : k ∈ keysM (blkM (castL lockK xs) (castL lockK ys) ⟨u, i, lo, hi, e, x⟩) := hk
              rw [hcl] at hk
              exact blk_units (fun _ h => h) hk
            conv => whnf
            refine Br.mk (fun c5 => ?_) (fun c5 => ?_)
            · have c5 : reachB xs ys (blkM (castL lockK xs) (castL lockK ys) ⟨u, i, lo, hi, e, x⟩) u = true := c5
              rw [hcl] at c5
              conv => whnf
              have hr2 : askL xs ys ⟨u, i, lo, hi, e, x⟩ = (16, xs, ys) := by simp only [askL, he, c5]
              rw [hr, hr2]
              exact FinF.mk _ (.sc (.int false .i64 16)) [.box 112 [.h 3, .h 4], .gone, .gone, .slc lockK xs, .slc lockK ys] [4, 5] rfl rfl rfl ⟨⟨rfl, rfl⟩, trivial, trivial, rfl, rfl, trivial⟩ rfl (Nat.le_add_right 3 2) ⟨rfl, rfl⟩
            · have c5 : reachB xs ys (blkM (castL lockK xs) (castL lockK ys) ⟨u, i, lo, hi, e, x⟩) u = false := c5
              rw [hcl] at c5
              conv => whnf
              have hr2 : askL xs ys ⟨u, i, lo, hi, e, x⟩ = (15, xs, ys ++ [⟨u, i, lo, hi, e, x⟩]) := by simp only [askL, he, c5]
              rw [hr, hr2]
              refine Cast.mk _ _ ?_
              conv => whnf
              refine Need.mk (show (ys.length + 1) * 64 ≤ 140737488355328 from by omega) ?_
              conv => whnf
              refine Need.mk (by kernel_rfl) ?_
              conv => whnf
              exact FinF.mk _ (.sc (.int false .i64 15)) [.box 112 [.h 3, .h 4], .gone, .gone, .slc lockK xs, .slc lockK (ys ++ [⟨u, i, lo, hi, e, x⟩])] [4, 9] rfl rfl rfl ⟨⟨rfl, rfl⟩, trivial, trivial, rfl, rfl, trivial⟩ rfl (Nat.le_add_right 3 2) ⟨rfl, rfl⟩
      · have hany := idx_lt c3
        conv => whnf
        refine Need.mk (show 1 ≠ 2 ∧ lockK = lockK ∧ lockK = lockK ∧ held.length ≤ 1048576 ∧ queue.length ≤ 1048576 from ⟨by decide, rfl, rfl, by omega, by omega⟩) ?_
        conv => whnf
        refine Need.mk (by kernel_rfl) ?_
        conv => whnf
        have hcl : blkM (castL lockK held) (castL lockK queue) ⟨u, i, lo, hi, e, x⟩ = blkM held queue ⟨u, i, lo, hi, e, x⟩ := by rw [castL_eq, castL_eq]
        have hr : reqL held queue ⟨u, i, lo, hi, e, x⟩ = askL held queue ⟨u, i, lo, hi, e, x⟩ := by simp only [reqL, c1, c2, hany]
        refine Br.mk (fun c4 => ?_) (fun c4 => ?_)
        · have c4 : (((blkM (castL lockK held) (castL lockK queue) ⟨u, i, lo, hi, e, x⟩).length : Int) == 0) = true := c4
          rw [hcl] at c4
          have he : (blkM held queue ⟨u, i, lo, hi, e, x⟩).isEmpty = true := by
            cases hz : blkM held queue ⟨u, i, lo, hi, e, x⟩ with
            | nil => rfl
            | cons _ _ => rw [hz] at c4; simp at c4; omega
          have hr2 : askL held queue ⟨u, i, lo, hi, e, x⟩ = (0, held ++ [⟨u, i, lo, hi, e, x⟩], queue) := by rw [askL, he]
          rw [hr, hr2]
          conv => whnf
          refine Cast.mk _ _ ?_
          conv => whnf
          refine Need.mk (show (held.length + 1) * 64 ≤ 140737488355328 from by omega) ?_
          conv => whnf
          refine Need.mk (by kernel_rfl) ?_
          conv => whnf
          exact FinF.mk _ (.sc (.int false .i64 0)) [.box 112 [.h 3, .h 4], .gone, .gone, .slc lockK (held ++ [⟨u, i, lo, hi, e, x⟩]), .slc lockK queue] [6, 2] rfl rfl rfl ⟨⟨rfl, rfl⟩, trivial, trivial, rfl, rfl, trivial⟩ rfl (Nat.le_add_right 3 2) ⟨rfl, rfl⟩
        · have c4 : (((blkM (castL lockK held) (castL lockK queue) ⟨u, i, lo, hi, e, x⟩).length : Int) == 0) = false := c4
          rw [hcl] at c4
          have he : (blkM held queue ⟨u, i, lo, hi, e, x⟩).isEmpty = false := by
            cases hz : blkM held queue ⟨u, i, lo, hi, e, x⟩ with
            | nil => rw [hz] at c4; simp at c4
            | cons _ _ => rfl
          conv => whnf
          refine CastM.mk _ _ ?_
          refine Need.mk (show 1 ≠ 2 by decide) (Cast.mk _ _ (Cast.mk _ _ (Need.mk ⟨by omega, by omega, fun k hk => ?_⟩ ?_)))
          · have hk : k ∈ keysM (blkM (castL lockK held) (castL lockK queue) ⟨u, i, lo, hi, e, x⟩) := hk
            rw [hcl] at hk
            exact blk_units (fun _ h => h) hk
          conv => whnf
          refine Br.mk (fun c5 => ?_) (fun c5 => ?_)
          · have c5 : reachB held queue (blkM (castL lockK held) (castL lockK queue) ⟨u, i, lo, hi, e, x⟩) u = true := c5
            rw [hcl] at c5
            conv => whnf
            have hr2 : askL held queue ⟨u, i, lo, hi, e, x⟩ = (16, held, queue) := by simp only [askL, he, c5]
            rw [hr, hr2]
            exact FinF.mk _ (.sc (.int false .i64 16)) [.box 112 [.h 3, .h 4], .gone, .gone, .slc lockK held, .slc lockK queue] [1, 2] rfl rfl rfl ⟨⟨rfl, rfl⟩, trivial, trivial, rfl, rfl, trivial⟩ rfl (Nat.le_add_right 3 2) ⟨rfl, rfl⟩
          · have c5 : reachB held queue (blkM (castL lockK held) (castL lockK queue) ⟨u, i, lo, hi, e, x⟩) u = false := c5
            rw [hcl] at c5
            conv => whnf
            have hr2 : askL held queue ⟨u, i, lo, hi, e, x⟩ = (15, held, queue ++ [⟨u, i, lo, hi, e, x⟩]) := by simp only [askL, he, c5]
            rw [hr, hr2]
            refine Cast.mk _ _ ?_
            conv => whnf
            refine Need.mk (show (queue.length + 1) * 64 ≤ 140737488355328 from by omega) ?_
            conv => whnf
            refine Need.mk (by kernel_rfl) ?_
            conv => whnf
            exact FinF.mk _ (.sc (.int false .i64 15)) [.box 112 [.h 3, .h 4], .gone, .gone, .slc lockK held, .slc lockK (queue ++ [⟨u, i, lo, hi, e, x⟩])] [1, 6] rfl rfl rfl ⟨⟨rfl, rfl⟩, trivial, trivial, rfl, rfl, trivial⟩ rfl (Nat.le_add_right 3 2) ⟨rfl, rfl⟩
end Go.Proofs.Ytljokmmgkecjbaa

namespace Go.Proofs.Ytljokmmgkecjbaa
open Go Go.AM
/-! an act -/
structure Ac where
  k : Int
  l : Lk
def ac0 : Ac := ⟨0, lk0⟩
def Ac.S (a : Ac) : List Sc := [.int false .i64 a.k, .int false .i64 a.l.u, .int false .i64 a.l.i, .str a.l.lo, .str a.l.hi, .bool a.l.e, .bool a.l.x]
def Ac.A (a : Ac) : AVal := .agg [.int false .i64 a.k, .int false .i64 a.l.u, .int false .i64 a.l.i, .str a.l.lo, .str a.l.hi, .bool a.l.e, .bool a.l.x]
noncomputable abbrev actK : Kind where
  T := Ac
  d := ac0
  sz := 7
  elem := 60
  enc a := [.int .i64 a.k, .int .i64 a.l.u, .int .i64 a.l.i, .string a.l.lo, .string a.l.hi, .bool a.l.e, .bool a.l.x]
  encA a := [.int false .i64 a.k, .int false .i64 a.l.u, .int false .i64 a.l.i, .str a.l.lo, .str a.l.hi, .bool a.l.e, .bool a.l.x]
  dec := fun
    | [.int _ .i64 k, .int _ .i64 u, .int _ .i64 i, .str lo, .str hi, e, x] => match boolOf e, boolOf x with
      | some e, some x => some ⟨k, u, i, lo, hi, e, x⟩
      | _, _ => none
    | _ => none
  pos := by decide
  len := fun _ => rfl
  one := fun r u hu => by simp at hu; rcases hu with rfl | rfl | rfl | rfl | rfl | rfl | rfl <;> rfl
  rep := fun env x vs => ⟨fun ⟨v0, vs0, g1, g2, v, vs', h1, h2, v2, vs2, h3, h4, v3, vs3, h5, h6, v4, vs4, h7, h8, v5, vs5, h9, h10, v6, vs6, h11, h12, h13⟩ => by
    cases h13; cases h12; subst h11; cases h10; subst h9; cases h8; subst h7; cases h6; subst h5; cases h4; subst h3; cases h2; subst h1; cases g2; exact g1,
    fun h => ⟨_, _, h, rfl, _, _, rfl, rfl, _, _, rfl, rfl, _, _, rfl, rfl, _, _, rfl, rfl, _, _, rfl, rfl, _, _, rfl, rfl, rfl⟩⟩
  dec_ok := fun cs x h env vs hr => by
    split at h
    · split at h
      · rename_i he hx
        cases h
        obtain ⟨v0, vs0, g1, g2, v, vs', h1, h2, v2, vs2, h3, h4, v3, vs3, h5, h6, v4, vs4, h7, h8, v5, vs5, h9, h10, v6, vs6, h11, h12, h13⟩ := hr
        cases h13; cases boolOf_rep hx h12; subst h11; cases boolOf_rep he h10; subst h9; cases h8; subst h7; cases h6; subst h5; cases h4; subst h3; cases h2; subst h1; cases g2; exact g1
      · cases h
    · cases h
noncomputable def kinds46b (e : TypeId) : Option Kind := match e with
  | 60 => some actK
  | e => kinds46 e
def shortA (a : Ac) : Bool := decide ((a.l.lo.size : Int) ≤ 40) && decide ((a.l.hi.size : Int) ≤ 40)
def fewA (acts : List Ac) (most : Int) : Bool := decide ((acts.length : Int) ≤ most) && acts.all shortA
noncomputable def E47 : Eng := mkEng Try.prog kinds46b noEq noQT noSpec noQ
theorem E47_ok : E47.Ok := mkEng_ok mixedT (fun _ _ _ _ h => by cases h) (fun _ _ _ _ h => h.elim) (fun _ _ _ _ _ h => by cases h) (fun _ _ _ _ h => by cases h)
theorem all_snoc {α : Type} {p : α → Bool} {xs : List α} {d : α} {k : Nat} (hk : k < xs.length) : (xs.take (k + 1)).all p = ((xs.take k).all p && p (xs.getD k d)) := by
  rw [List.take_succ_eq_append_getElem hk, List.all_append, List.getD_eq_getElem?_getD, List.getElem?_eq_getElem hk]; simp
theorem few_no {acts : List Ac} {most : Int} {k : Nat} (hk : k < acts.length) (h : shortA (acts.getD k ac0) = false) : AVal.sc (.bool false) = .sc (.bool (fewA acts most)) := by
  have : fewA acts most = false := by
    unfold fewA
    rw [Bool.and_eq_false_iff]
    right
    rw [List.all_eq_false]
    refine ⟨acts.getD k ac0, ?_, by rw [h]; simp⟩
    rw [List.getD_eq_getElem?_getD, List.getElem?_eq_getElem hk]
    exact List.getElem_mem hk
  rw [this]
theorem few46_base (acts : List Ac) (most : Int) : TripleF Try.prog 47 [.sc (.h 0), .sc (.int false .i64 most)] [.ro actK acts] (fun r _ => r = .sc (.bool (fewA acts most)) ∧ r.below 0 = true) := by
  refine base_of_awp (R := fun r => r = .sc (.bool (fewA acts most))) E47_ok Try.func47 rfl (by kernel_rfl) ?_
  conv => whnf
  refine Know.mk fun hlen => ?_
  have hlen : acts.length ≤ 9223372036854775807 := hlen
  conv => whnf
  refine Br.mk (fun c1 => ?_) (fun c1 => ?_)
  · conv => whnf
    have c1 : decide ((acts.length : Int) > most) = true := c1
    have : fewA acts most = false := by
      simp [fewA] at c1 ⊢
      intro h; omega
    rw [this]
  · have c1 : decide ((acts.length : Int) > most) = false := c1
    conv => whnf
    refine Know.mk fun _ => ?_
    conv => whnf
    refine LoopF.inv Nat (fun k => k ≤ acts.length ∧ (acts.take k).all shortA = true) (fun k => [(13, .sc (.int false .i64 (k : Int)))]) (fun k => acts.length - k) (fun _ => [AM.Item.ro actK acts]) (fun _ => Nat.le_refl _) 0 []
      ⟨Nat.zero_le _, rfl⟩ ⟨⟨⟨rfl, rfl⟩, trivial⟩, ⟨rfl, trivial⟩, rfl⟩ ?_
    rintro k ⟨h1, h2⟩
    conv => whnf
    refine Br.mk (fun c2 => ?_) (fun c2 => ?_)
    · have hk := ltN c2
      have hsn := all_snoc (p := shortA) (d := ac0) hk
      refine Need.mk (show 0 ≤ (k : Int) ∧ (k : Int) < (acts.length : Nat) from ⟨by omega, by omega⟩) ?_
      conv => whnf
      refine Br.mk (fun c3 => ?_) (fun c3 => ?_)
      · conv => whnf
        have c3 : decide (((nth acts k ac0).l.lo.size : Int) > 40) = true := c3
        rw [nth_eq] at c3
        refine few_no hk ?_
        simp [shortA] at c3 ⊢
        intro h; omega
      · have c3 : decide (((nth acts k ac0).l.lo.size : Int) > 40) = false := c3
        rw [nth_eq] at c3
        conv => whnf
        refine Br.mk (fun c4 => ?_) (fun c4 => ?_)
        · conv => whnf
          have c4 : decide (((nth acts k ac0).l.hi.size : Int) > 40) = true := c4
          rw [nth_eq] at c4
          refine few_no hk ?_
          simp [shortA] at c4 ⊢
          intro h; omega
        · have c4 : decide (((nth acts k ac0).l.hi.size : Int) > 40) = false := c4
          rw [nth_eq] at c4
          conv => whnf
          refine ⟨k + 1, [], ⟨by omega, ?_⟩, by omega, ⟨⟨⟨rfl, wrap_succ hk hlen⟩, trivial⟩, ⟨rfl, trivial⟩, rfl⟩, rfl⟩
          rw [hsn, h2]
          simp [shortA] at c3 c4 ⊢
          omega
    · have c2 := geN c2
      conv => whnf
      rw [List.take_of_length_le (by omega)] at h2
      have : fewA acts most = true := by
        simp [fewA] at c1 ⊢
        exact ⟨c1, by simpa using h2⟩
      rw [this]
end Go.Proofs.Ytljokmmgkecjbaa

namespace Go.Proofs.Ytljokmmgkecjbaa
open Go Go.AM
theorem turnK_same {t a b : Nat} {m : List AM.Item} {xs ys : List Lk} {k : AVal → List AM.Item → Prop} {r : AVal} (h1 : t ≠ a) (h2 : t ≠ b) (hl : t < m.length) (h : turnK t a b m xs ys fun m1 n => k r m1) :
    turnK t a b m xs ys fun m1 n => k r (m1 ++ []) := by
  unfold turnK at h ⊢
  simp only [setK_eq, snocK_eq, List.append_nil] at h ⊢
  exact h
noncomputable def requestS (args : List AVal) (m : List AM.Item) (k : AVal → List AM.Item → Prop) : Prop := match args with
  | [.sc (.fld t 0), x] => match lkOf x with
    | some l => mgrS t m fun a b xs ys => Need (xs.length + ys.length < 1048576) (turnK t a b m (reqL xs ys l).2.1 (reqL xs ys l).2.2 fun m1 n => k (.sc (.int false .i64 (reqL xs ys l).1)) m1)
    | none => False
  | _ => False
theorem requestS_ok {args : List AVal} {m : List AM.Item} {k : AVal → List AM.Item → Prop} (h : requestS args m k) : TripleF Try.prog 63 args m k := by
  unfold requestS at h
  split at h
  · rename_i t x
    split at h
    · rename_i l hl
      obtain ⟨a, b, xs, ys, ⟨hlen, h⟩, h1, h2, h3⟩ := mgrS_get h
      obtain ⟨n1, n2, n3⟩ := mgr_ne h1 h3
      exact TripleF.arg (pre := [.sc (.fld t 0)]) (post := []) (fun env v => lkOf_rep hl) (mgr_turn (extra := []) (request_base xs ys l hlen) rfl rfl h1 h2 h3 (fun _ => rfl) (turnK_same n1 n2 n3 h))
    · exact h.elim
  · exact h.elim
noncomputable def releaseS (args : List AVal) (m : List AM.Item) (k : AVal → List AM.Item → Prop) : Prop := match args with
  | [.sc (.fld t 0), .sc (.int _ .i64 u)] => mgrS t m fun a b xs ys => Need (xs.length + ys.length ≤ 1048576) (turnK t a b m (relL xs ys u).1 (relL xs ys u).2.1 fun m1 n => snocK m1 (.slc int55 (relL xs ys u).2.2) fun m2 n2 => k (.sc (.h n2)) m2)
  | _ => False
theorem releaseS_ok {args : List AVal} {m : List AM.Item} {k : AVal → List AM.Item → Prop} (h : releaseS args m k) : TripleF Try.prog 72 args m k := by
  unfold releaseS at h
  split at h
  · rename_i t _ u
    obtain ⟨a, b, xs, ys, ⟨hl, h⟩, h1, h2, h3⟩ := mgrS_get h
    obtain ⟨n1, n2, n3⟩ := mgr_ne h1 h3
    exact TripleF.std (mgr_turn (extra := [.slc int55 (relL xs ys u).2.2]) (release_base xs ys u hl) rfl rfl h1 h2 h3 (fun _ => rfl) (turnK_snoc n1 n2 n3 h))
  · exact h.elim
noncomputable def sp46d (f : FuncId) (args : List AVal) (m : List AM.Item) (k : AVal → List AM.Item → Prop) : Prop := match f with
  | 63 => requestS args m k
  | 72 => releaseS args m k
  | 64 => cancelS args m k
  | _ => False
theorem sp46d_ok : ∀ f args m k, sp46d f args m k → TripleF Try.prog f args m k := by
  intro f args m k h
  unfold sp46d at h
  split at h
  · exact requestS_ok h
  · exact releaseS_ok h
  · exact cancelS_ok h
  · exact h.elim
noncomputable def E51 : Eng := mkEngX Try.prog kinds46b eqT qt46c sp46d noQ maps46 (fun _ _ _ => none) (fun _ => false)
theorem E51_ok : E51.Ok := mkEngX_ok mixedT qt46cok sp46d_ok (fun _ _ _ _ _ h => by cases h) eqT_ok maps46_ok (fun _ _ _ _ h => by cases h)
/-- an act upon held locks and queue -/
structure DoR where
  e : Int
  held : List Lk
  queue : List Lk
  out : List Int
noncomputable def doL (held queue : List Lk) (a : Ac) : DoR :=
  match a.k.tmod 3 == 1 with
  | true => ⟨0, (grantL held [] (queue.filter (notB a.l.u))).1, (grantL held [] (queue.filter (notB a.l.u))).2.1, (grantL held [] (queue.filter (notB a.l.u))).2.2⟩
  | false => match a.k.tmod 3 == 2 with
    | true => ⟨0, (relL held queue a.l.u).1, (relL held queue a.l.u).2.1, (relL held queue a.l.u).2.2⟩
    | false => ⟨(reqL held queue a.l).1, (reqL held queue a.l).2.1, (reqL held queue a.l).2.2, []⟩
theorem do_base (held queue : List Lk) (a : Ac) (hb : held.length + queue.length < 1048576) : TripleF Try.prog 51 [.sc (.fld 0 0), a.A] (mgr held queue) (fun r m' => r = .tup [(false, [.int false .i64 (doL held queue a).e]), (false, [.h 5])] ∧ m' = [.box 112 [.h 3, .h 4], .gone, .gone, .slc lockK (doL held queue a).held, .slc lockK (doL held queue a).queue, .slc int55 (doL held queue a).out]) := by
  refine triple_of_awp E51_ok Try.func51 rfl (by kernel_rfl) ?_
  obtain ⟨k, u, i, lo, hi, e, x⟩ := a
  simp only [Ac.A]
  conv => whnf
  refine Br.mk (fun c1 => ?_) (fun c1 => ?_)
  · have c1 : (k.tmod 3 == 1) = true := c1
    conv => whnf
    refine Need.mk (show 1 ≠ 2 by decide) (Cast.mk _ _ (Cast.mk _ _ (Need.mk (by omega) ?_)))
    conv => whnf
    refine FinF.mk _ (.tup [(false, [.int false .i64 0]), (false, [.h 5])]) [.box 112 [.h 3, .h 4], .gone, .gone, .slc lockK (grantL held [] (queue.filter (notB u))).1, .slc lockK (grantL held [] (queue.filter (notB u))).2.1, .slc int55 (grantL held [] (queue.filter (notB u))).2.2] [4, 5, 6] rfl rfl rfl ⟨⟨rfl, rfl⟩, trivial, trivial, rfl, rfl, rfl, trivial⟩ rfl (Nat.le_add_right 3 3) ?_
    simp only [doL, c1, and_self]
  · have c1 : (k.tmod 3 == 1) = false := c1
    conv => whnf
    refine Br.mk (fun c2 => ?_) (fun c2 => ?_)
    · have c2 : (k.tmod 3 == 2) = true := c2
      conv => whnf
      refine Need.mk (show 1 ≠ 2 by decide) (Cast.mk _ _ (Cast.mk _ _ (Need.mk (by omega) ?_)))
      conv => whnf
      refine FinF.mk _ (.tup [(false, [.int false .i64 0]), (false, [.h 5])]) [.box 112 [.h 3, .h 4], .gone, .gone, .slc lockK (relL held queue u).1, .slc lockK (relL held queue u).2.1, .slc int55 (relL held queue u).2.2] [4, 5, 6] rfl rfl rfl ⟨⟨rfl, rfl⟩, trivial, trivial, rfl, rfl, rfl, trivial⟩ rfl (Nat.le_add_right 3 3) ?_
      simp only [doL, c1, c2, and_self]
    · have c2 : (k.tmod 3 == 2) = false := c2
      conv => whnf
      refine Need.mk (show 1 ≠ 2 by decide) (Cast.mk _ _ (Cast.mk _ _ (Need.mk (by omega) ?_)))
      conv => whnf
      refine FinF.tell (.nilT 5 int55) _ _ (And.intro rfl rfl) ?_
      refine FinF.mk _ (.tup [(false, [.int false .i64 (reqL held queue ⟨u, i, lo, hi, e, x⟩).1]), (false, [.h 5])]) [.box 112 [.h 3, .h 4], .gone, .gone, .slc lockK (reqL held queue ⟨u, i, lo, hi, e, x⟩).2.1, .slc lockK (reqL held queue ⟨u, i, lo, hi, e, x⟩).2.2, .slc int55 []] [4, 5, 6] rfl rfl rfl ⟨⟨rfl, rfl⟩, trivial, trivial, rfl, rfl, rfl, trivial⟩ rfl (Nat.le_add_right 3 3) ?_
      simp only [doL, c1, c2, and_self]
end Go.Proofs.Ytljokmmgkecjbaa

namespace Go.Proofs.Ytljokmmgkecjbaa
open Go Go.AM
def acOf : AVal → Option Ac
  | .agg [.int _ .i64 k, .int _ .i64 u, .int _ .i64 i, .str lo, .str hi, e, x] => match boolOf e, boolOf x with
    | some e, some x => some ⟨k, u, i, lo, hi, e, x⟩
    | _, _ => none
  | _ => none
theorem acOf_rep {x : AVal} {l : Ac} (h : acOf x = some l) {env : List Value} {v : Value} (hr : Rep env x v) : Rep env l.A v := by
  unfold acOf at h
  split at h
  · split at h
    · rename_i he hx
      cases h
      obtain ⟨vs, rfl, v0, _, rfl, h0, v1, _, rfl, h1, v2, _, rfl, h2, v3, _, rfl, h3, v4, _, rfl, h4, v5, _, rfl, h5, v6, _, rfl, h6, rfl⟩ := hr
      exact ⟨_, rfl, _, _, rfl, h0, _, _, rfl, h1, _, _, rfl, h2, _, _, rfl, h3, _, _, rfl, h4, _, _, rfl, boolOf_rep he h5, _, _, rfl, boolOf_rep hx h6, rfl⟩
    · cases h
  · cases h
theorem turnK_snocT {t a b : Nat} {m : List AM.Item} {xs ys : List Lk} {it : AM.Item} {e : Int} {k : AVal → List AM.Item → Prop} (h1 : t ≠ a) (h2 : t ≠ b) (hl : t < m.length) (h : turnK t a b m xs ys fun m1 n => snocK m1 it fun m2 n2 => k (.tup [(false, [.int false .i64 e]), (false, [.h n2])]) m2) :
    turnK t a b m xs ys fun m1 n => k (.tup [(false, [.int false .i64 e]), (false, [.h (m.length + 2)])]) (m1 ++ [it]) := by
  have := turnK_eq h1 h2 hl h
  unfold turnK
  rw [snocK_eq] at this
  simp only [setK_eq, snocK_eq, List.length_append, List.length_set, List.length_singleton]
  rw [List.append_assoc, List.set_append_left _ _ (by simpa using hl), List.set_comm _ _ (Ne.symm h2), List.set_comm _ _ (Ne.symm h1)]
  simpa using this
noncomputable def doS (args : List AVal) (m : List AM.Item) (k : AVal → List AM.Item → Prop) : Prop := match args with
  | [.sc (.fld t 0), x] => match acOf x with
    | some l => mgrS t m fun a b xs ys => Need (xs.length + ys.length < 1048576) (turnK t a b m (doL xs ys l).held (doL xs ys l).queue fun m1 n => snocK m1 (.slc int55 (doL xs ys l).out) fun m2 n2 => k (.tup [(false, [.int false .i64 (doL xs ys l).e]), (false, [.h n2])]) m2)
    | none => False
  | _ => False
theorem doS_ok {args : List AVal} {m : List AM.Item} {k : AVal → List AM.Item → Prop} (h : doS args m k) : TripleF Try.prog 51 args m k := by
  unfold doS at h
  split at h
  · rename_i t x
    split at h
    · rename_i l hl
      obtain ⟨a, b, xs, ys, ⟨hlen, h⟩, h1, h2, h3⟩ := mgrS_get h
      obtain ⟨n1, n2, n3⟩ := mgr_ne h1 h3
      exact TripleF.arg (pre := [.sc (.fld t 0)]) (post := []) (fun env v => acOf_rep hl) (mgr_turn (extra := [.slc int55 (doL xs ys l).out]) (do_base xs ys l hlen) rfl rfl h1 h2 h3 (fun _ => rfl) (turnK_snocT n1 n2 n3 h))
    · exact h.elim
  · exact h.elim
/-- a manager laid anew -/
noncomputable def freshK (m : List AM.Item) (xs : List Lk) (k : AVal → List AM.Item → Prop) : Prop :=
  snocK m .gone fun m1 n => snocK m1 (.slc lockK xs) fun m2 a => snocK m2 (.slc lockK []) fun m3 b => setK m3 n (.box 112 [.h a, .h b]) fun m4 => k (.sc (.fld n 0)) m4
theorem freshK_eq {m : List AM.Item} {xs : List Lk} {k : AVal → List AM.Item → Prop} (h : freshK m xs k) : k (.sc (.fld m.length 0)) (m ++ [.box 112 [.h (m.length + 1), .h (m.length + 2)], .slc lockK xs, .slc lockK []]) := by
  unfold freshK at h
  simp only [setK_eq, snocK_eq, List.length_append, List.length_singleton, List.append_assoc] at h
  rw [List.set_append_right _ _ (Nat.le_refl _), Nat.sub_self] at h
  exact h
noncomputable def newS (args : List AVal) (m : List AM.Item) (k : AVal → List AM.Item → Prop) : Prop := match args with
  | [.sc (.val (.slice none 0 0))] => freshK m [] k
  | [.sc (.h t)] => match (nth m t .gone).row with
    | some ⟨K, xs⟩ => Cast (K1 := lockK) K xs fun xs => Need (xs.length ≤ 1048576) (freshK m (newL xs) k)
    | none => False
  | _ => False
theorem newS_ok {args : List AVal} {m : List AM.Item} {k : AVal → List AM.Item → Prop} (h : newS args m k) : TripleF Try.prog 49 args m k := by
  unfold newS at h
  split at h
  · exact frame_add (m0 := []) (extra := mgr [] []) (r0 := .sc (.fld 0 0)) new_nil [] rfl rfl trivial rfl rfl (freshK_eq h)
  · rename_i t
    split at h
    · rename_i K xs hrow
      obtain ⟨xs, _, hlen, h⟩ := h
      have hg : nth m t .gone ≠ .gone := by intro e; rw [e] at hrow; cases hrow
      exact frame_add (m0 := [.ro lockK xs]) (extra := [.box 112 [.h 2, .h 3], .slc lockK (newL xs), .slc lockK []]) (r0 := .sc (.fld 1 0)) (new_base xs hlen) [t] rfl rfl ⟨⟨lockK, xs, hrow, rfl, rfl⟩, trivial⟩ rfl (by simp only [List.all_cons, List.all_nil, Bool.and_true, Nat.blt_eq]; exact nth_lt rfl hg) (freshK_eq h)
    · exact h.elim
  · exact h.elim
noncomputable def sp46e (f : FuncId) (args : List AVal) (m : List AM.Item) (k : AVal → List AM.Item → Prop) : Prop := match f with
  | 49 => newS args m k
  | 51 => doS args m k
  | _ => False
theorem sp46e_ok : ∀ f args m k, sp46e f args m k → TripleF Try.prog f args m k := by
  intro f args m k h
  unfold sp46e at h
  split at h
  · exact newS_ok h
  · exact doS_ok h
  · exact h.elim
noncomputable def E61 : Eng := mkEngX Try.prog kinds46b eqT qt46c sp46e noQ maps46 (fun _ _ _ => none) (fun _ => false)
theorem E61_ok : E61.Ok := mkEngX_ok mixedT qt46cok sp46e_ok (fun _ _ _ _ _ h => by cases h) eqT_ok maps46_ok (fun _ _ _ _ h => by cases h)
theorem req_len (held queue : List Lk) (l : Lk) : (reqL held queue l).2.1.length + (reqL held queue l).2.2.length ≤ held.length + queue.length + 1 := by
  have hask : ∀ h q : List Lk, (askL h q l).2.1.length + (askL h q l).2.2.length ≤ h.length + q.length + 1 := fun h q => by
    unfold askL
    split
    · simp; omega
    · split
      · simp
      · simp; omega
  unfold reqL
  split
  · simp
  · split
    · simp
    · split
      · exact hask _ _
      · split
        · simp
        · refine Nat.le_trans (hask _ _) ?_
          have := grantL_len held [] (queue.filter (notB l.u))
          have := List.length_filter_le (notB l.u) queue
          simp at *; omega
theorem do_len (held queue : List Lk) (a : Ac) : (doL held queue a).held.length + (doL held queue a).queue.length ≤ held.length + queue.length + 1 := by
  unfold doL
  split
  · have := grantL_len held [] (queue.filter (notB a.l.u))
    have := List.length_filter_le (notB a.l.u) queue
    simp at *; omega
  · split
    · have := grantL_len (held.filter (notB a.l.u)) [] (queue.filter (notB a.l.u))
      have := List.length_filter_le (notB a.l.u) queue
      have := List.length_filter_le (notB a.l.u) held
      simp [relL] at *; omega
    · exact req_len _ _ _
/-- the locks after acts -/
noncomputable def playF (acts : List Ac) (s : List Lk × List Lk) : List Lk × List Lk := acts.foldl (fun s a => ((doL s.1 s.2 a).held, (doL s.1 s.2 a).queue)) s
noncomputable def playL (acts : List Ac) : List Lk × List Lk := playF acts ([], [])
theorem play_snoc {acts : List Ac} {k : Nat} (hk : k < acts.length) : playL (acts.take (k + 1)) = ((doL (playL (acts.take k)).1 (playL (acts.take k)).2 (acts.getD k ac0)).held, (doL (playL (acts.take k)).1 (playL (acts.take k)).2 (acts.getD k ac0)).queue) := by
  unfold playL playF
  rw [List.take_succ_eq_append_getElem hk, List.foldl_append, List.getD_eq_getElem?_getD, List.getElem?_eq_getElem hk]; rfl
theorem playF_len : ∀ (acts : List Ac) (s : List Lk × List Lk), (playF acts s).1.length + (playF acts s).2.length ≤ s.1.length + s.2.length + acts.length
  | [], s => by simp [playF]
  | a :: acts, s => by
    have h1 := playF_len acts ((doL s.1 s.2 a).held, (doL s.1 s.2 a).queue)
    have h2 := do_len s.1 s.2 a
    have h3 : playF (a :: acts) s = playF acts ((doL s.1 s.2 a).held, (doL s.1 s.2 a).queue) := rfl
    rw [h3]
    simp only [List.length_cons] at *
    omega
theorem play_len (acts : List Ac) : (playL acts).1.length + (playL acts).2.length ≤ acts.length := by
  have := playF_len acts ([], [])
  simpa [playL] using this
theorem play_base (acts : List Ac) (hb : acts.length ≤ 1000000) : TripleF Try.prog 61 [.sc (.h 0)] [.ro actK acts] (fun r m' => r = .sc (.fld 1 0) ∧ m' = [.ro actK acts, .box 112 [.h 2, .h 3], .slc lockK (playL acts).1, .slc lockK (playL acts).2]) := by
  refine triple_of_awp E61_ok Try.func61 rfl (by kernel_rfl) ?_
  conv => whnf
  refine Know.mk fun hlen => ?_
  have hlen : acts.length ≤ 9223372036854775807 := hlen
  conv => whnf
  refine LoopF.inv Nat (fun k => k ≤ acts.length) (fun k => [(9, .sc (.int false .i64 (k : Int)))]) (fun k => acts.length - k)
    (fun k => [.ro actK acts, .box 112 [.h 4, .h 5], .gone, .gone, .slc lockK (playL (acts.take k)).1, .slc lockK (playL (acts.take k)).2]) (fun _ => Nat.le_add_right 4 2) 0 [2, 3]
    (Nat.zero_le _) ⟨⟨⟨rfl, rfl⟩, trivial⟩, ⟨rfl, ⟨rfl, rfl⟩, trivial, trivial, rfl, rfl, trivial⟩, rfl⟩ ?_
  rintro k h1
  conv => whnf
  refine Br.mk (fun c1 => ?_) (fun c1 => ?_)
  · have hk := ltN c1
    refine Need.mk (show 0 ≤ (k : Int) ∧ (k : Int) < (acts.length : Nat) from ⟨by omega, by omega⟩) ?_
    conv => whnf
    have hpl := play_len (acts.take k)
    rw [List.length_take] at hpl
    refine Need.mk (show 4 ≠ 5 by decide) (Cast.mk _ _ (Cast.mk _ _ (Need.mk (by omega) ?_)))
    conv => whnf
    refine ⟨k + 1, [7, 8], by omega, by omega, ⟨⟨⟨rfl, wrap_succ hk hlen⟩, trivial⟩, ⟨rfl, ⟨rfl, rfl⟩, trivial, trivial, ?_, ?_, trivial⟩, rfl⟩, rfl⟩
    · show AM.Item.slc lockK (doL (playL (acts.take k)).1 (playL (acts.take k)).2 (nth acts k ac0)).held = .slc lockK (playL (acts.take (k + 1))).1
      rw [play_snoc hk, nth_eq]
    · show AM.Item.slc lockK (doL (playL (acts.take k)).1 (playL (acts.take k)).2 (nth acts k ac0)).queue = .slc lockK (playL (acts.take (k + 1))).2
      rw [play_snoc hk, nth_eq]
  · have c1 := geN c1
    conv => whnf
    refine FinF.mk _ (.sc (.fld 1 0)) [.ro actK acts, .box 112 [.h 2, .h 3], .slc lockK (playL acts).1, .slc lockK (playL acts).2] [1, 4, 5] rfl rfl rfl ⟨rfl, ⟨rfl, rfl⟩, ?_, ?_, trivial⟩ rfl (Nat.le_add_right 1 3) ⟨rfl, rfl⟩
    · show AM.Item.slc lockK (playL (acts.take k)).1 = _
      rw [List.take_of_length_le c1]
    · show AM.Item.slc lockK (playL (acts.take k)).2 = _
      rw [List.take_of_length_le c1]
end Go.Proofs.Ytljokmmgkecjbaa

namespace Go.Proofs.Ytljokmmgkecjbaa
open Go Go.RowKit Go.Maps Go.Sort Go.Shelf
def Kl.keysA_ren : Go.Shelf.Ren := ⟨fun | 7 => 91 | 10 => 123 | n => n, fun | 23 => 118 | 26 => 3 | 3 => 4 | 28 => 116 | 0 => 0 | 27 => 115 | 33 => 121 | 4 => 4 | n => n, fun | n => n⟩
theorem Kl.keysA : Go.Proofs.SlLaysZI.n7 Try.prog Kl.keysA_ren := {
  mixed := by kernel_rfl,
  f7 := ⟨Try.f91.name, by decide, Try.func91.trans (congrArg some (by kernel_rfl))⟩,
  f10 := ⟨Try.f123.name, by decide, Try.func123.trans (congrArg some (by kernel_rfl))⟩,
  t0 := Try.underlying0,
  a0 := Try.isAgg0,
  z0 := Try.sizeOf0,
  v0 := Try.zeroValue0,
  t4 := Try.underlying4,
  a4 := Try.isAgg4,
  z4 := Try.sizeOf4,
  v4 := Try.zeroValue4,
  t23 := Try.underlying118,
  a23 := Try.isAgg118,
  z23 := Try.sizeOf118,
  v23 := Try.zeroValue118,
  t26 := Try.underlying3,
  a26 := Try.isAgg3,
  z26 := Try.sizeOf3,
  v26 := Try.zeroValue3,
  t27 := Try.underlying115,
  a27 := Try.isAgg115,
  z27 := Try.sizeOf115,
  v27 := Try.zeroValue115,
  t28 := Try.underlying116,
  a28 := Try.isAgg116,
  z28 := Try.sizeOf116,
  v28 := Try.zeroValue116,
  t33 := Try.underlying121,
  a33 := Try.isAgg121,
  z33 := Try.sizeOf121,
  v33 := Try.zeroValue121 }
def Kl.sortedA_ren : Go.Shelf.Ren := ⟨fun | 6 => 90 | 8 => 121 | 9 => 122 | 11 => 142 | 13 => 144 | 12 => 143 | 23 => 160 | 24 => 161 | 14 => 151 | 15 => 152 | 16 => 153 | 17 => 154 | 18 => 155 | 19 => 156 | 20 => 157 | 21 => 158 | 22 => 159 | 25 => 166 | 26 => 167 | 27 => 168 | 28 => 169 | 29 => 170 | 30 => 171 | 31 => 174 | n => n, fun | 26 => 3 | 28 => 116 | 24 => 55 | 0 => 0 | 3 => 3 | 37 => 104 | 48 => 179 | 50 => 103 | 4 => 4 | 40 => 173 | 39 => 172 | 45 => 24 | 5 => 5 | 9 => 9 | 51 => 186 | 55 => 190 | 57 => 194 | 58 => 195 | 33 => 121 | n => n, fun | n => n⟩
theorem Kl.sortedA : Go.Proofs.SlLaysZI.n6 Try.prog Kl.sortedA_ren := {
  mixed := by kernel_rfl,
  f6 := ⟨Try.f90.name, by decide, Try.func90.trans (congrArg some (by kernel_rfl))⟩,
  f8 := ⟨Try.f121.name, by decide, Try.func121.trans (congrArg some (by kernel_rfl))⟩,
  f11 := ⟨Try.f142.name, by decide, Try.func142.trans (congrArg some (by kernel_rfl))⟩,
  t0 := Try.underlying0,
  a0 := Try.isAgg0,
  z0 := Try.sizeOf0,
  v0 := Try.zeroValue0,
  t24 := Try.underlying55,
  a24 := Try.isAgg55,
  z24 := Try.sizeOf55,
  v24 := Try.zeroValue55,
  t26 := Try.underlying3,
  a26 := Try.isAgg3,
  z26 := Try.sizeOf3,
  v26 := Try.zeroValue3,
  t28 := Try.underlying116,
  a28 := Try.isAgg116,
  z28 := Try.sizeOf116,
  v28 := Try.zeroValue116,
  i26 := by kernel_rfl }
def Kl.sortA_ren : Go.Shelf.Ren := ⟨fun | 5 => 122 | 8 => 144 | 7 => 143 | 19 => 160 | 20 => 161 | 10 => 151 | 11 => 152 | 12 => 153 | 13 => 154 | 14 => 155 | 15 => 156 | 16 => 157 | 17 => 158 | 18 => 159 | 30 => 166 | 31 => 167 | 32 => 168 | 33 => 169 | 34 => 170 | 35 => 171 | 40 => 174 | n => n, fun | 23 => 55 | 25 => 3 | 3 => 3 | 32 => 104 | 22 => 55 | 0 => 0 | 44 => 179 | 46 => 103 | 4 => 4 | 36 => 173 | 35 => 172 | 41 => 24 | 5 => 5 | 9 => 9 | 53 => 186 | 57 => 190 | 63 => 194 | 64 => 195 | n => n, fun | n => n⟩
theorem Kl.sortA : Go.Proofs.SlLaysM.n5 Try.prog Kl.sortA_ren := {
  mixed := by kernel_rfl,
  f5 := ⟨Try.f122.name, by decide, Try.func122.trans (congrArg some (by kernel_rfl))⟩,
  f7 := ⟨Try.f143.name, by decide, Try.func143.trans (congrArg some (by kernel_rfl))⟩,
  f8 := Try.func144.trans (congrArg some (by kernel_rfl)),
  f10 := ⟨Try.f151.name, by decide, Try.func151.trans (congrArg some (by kernel_rfl))⟩,
  f11 := ⟨Try.f152.name, by decide, Try.func152.trans (congrArg some (by kernel_rfl))⟩,
  f12 := ⟨Try.f153.name, by decide, Try.func153.trans (congrArg some (by kernel_rfl))⟩,
  f13 := ⟨Try.f154.name, by decide, Try.func154.trans (congrArg some (by kernel_rfl))⟩,
  f14 := ⟨Try.f155.name, by decide, Try.func155.trans (congrArg some (by kernel_rfl))⟩,
  f15 := ⟨Try.f156.name, by decide, Try.func156.trans (congrArg some (by kernel_rfl))⟩,
  f16 := ⟨Try.f157.name, by decide, Try.func157.trans (congrArg some (by kernel_rfl))⟩,
  f17 := ⟨Try.f158.name, by decide, Try.func158.trans (congrArg some (by kernel_rfl))⟩,
  f18 := ⟨Try.f159.name, by decide, Try.func159.trans (congrArg some (by kernel_rfl))⟩,
  f19 := Try.func160.trans (congrArg some (by kernel_rfl)),
  f20 := Try.func161.trans (congrArg some (by kernel_rfl)),
  f30 := ⟨Try.f166.name, by decide, Try.func166.trans (congrArg some (by kernel_rfl))⟩,
  f31 := Try.func167.trans (congrArg some (by kernel_rfl)),
  f32 := Try.func168.trans (congrArg some (by kernel_rfl)),
  f33 := ⟨Try.f169.name, by decide, Try.func169.trans (congrArg some (by kernel_rfl))⟩,
  f34 := ⟨Try.f170.name, by decide, Try.func170.trans (congrArg some (by kernel_rfl))⟩,
  f35 := ⟨Try.f171.name, by decide, Try.func171.trans (congrArg some (by kernel_rfl))⟩,
  f40 := ⟨Try.f174.name, by decide, Try.func174.trans (congrArg some (by kernel_rfl))⟩,
  t0 := Try.underlying0,
  a0 := Try.isAgg0,
  z0 := Try.sizeOf0,
  v0 := Try.zeroValue0,
  t3 := Try.underlying3,
  a3 := Try.isAgg3,
  z3 := Try.sizeOf3,
  v3 := Try.zeroValue3,
  t4 := Try.underlying4,
  a4 := Try.isAgg4,
  z4 := Try.sizeOf4,
  v4 := Try.zeroValue4,
  t5 := Try.underlying5,
  a5 := Try.isAgg5,
  z5 := Try.sizeOf5,
  v5 := Try.zeroValue5,
  t9 := Try.underlying9,
  a9 := Try.isAgg9,
  z9 := Try.sizeOf9,
  v9 := Try.zeroValue9,
  t22 := Try.underlying55,
  a22 := Try.isAgg55,
  z22 := Try.sizeOf55,
  v22 := Try.zeroValue55,
  t23 := Try.underlying55,
  a23 := Try.isAgg55,
  z23 := Try.sizeOf55,
  v23 := Try.zeroValue55,
  t25 := Try.underlying3,
  a25 := Try.isAgg3,
  z25 := Try.sizeOf3,
  v25 := Try.zeroValue3,
  t32 := Try.underlying104,
  a32 := Try.isAgg104,
  z32 := Try.sizeOf104,
  v32 := Try.zeroValue104,
  t35 := Try.underlying172,
  a35 := Try.isAgg172,
  z35 := Try.sizeOf172,
  v35 := Try.zeroValue172,
  t36 := Try.underlying173,
  a36 := Try.isAgg173,
  z36 := Try.sizeOf173,
  v36 := Try.zeroValue173,
  t41 := Try.underlying24,
  a41 := Try.isAgg24,
  z41 := Try.sizeOf24,
  v41 := Try.zeroValue24,
  t44 := Try.underlying179,
  a44 := Try.isAgg179,
  z44 := Try.sizeOf179,
  v44 := Try.zeroValue179,
  t46 := Try.underlying103,
  a46 := Try.isAgg103,
  z46 := Try.sizeOf103,
  v46 := Try.zeroValue103,
  t53 := Try.underlying186,
  a53 := Try.isAgg186,
  z53 := Try.sizeOf186,
  v53 := Try.zeroValue186,
  t57 := Try.underlying190,
  a57 := Try.isAgg190,
  z57 := Try.sizeOf190,
  v57 := Try.zeroValue190,
  t63 := Try.underlying194,
  a63 := Try.isAgg194,
  z63 := Try.sizeOf194,
  v63 := Try.zeroValue194,
  t64 := Try.underlying195,
  a64 := Try.isAgg195,
  z64 := Try.sizeOf195,
  v64 := Try.zeroValue195 }
theorem sortsA (m : Nat) : AnyZI.SortsIn Try.prog Kl.sortedA_ren Fence.wide m :=
  ⟨fun blk off cap ss W hH hblk hsz => callsIn_wide.2 (AnyM.slices_Sort_int Kl.sortA blk off cap ss W hH hblk hsz),
   fun p cap W => callsIn_wide.2 (AnyM.slices_Sort_int_none Kl.sortA p cap W)⟩
def sortI (xs : List Int) : List Int := xs.mergeSort fun x y => decide (x ≤ y)
def anyR (_ : Value) : Option (DataW Unit × List MemPlace) := some (.nil, [])
theorem sorted_some (w : World) (bp b nn : Nat) (D0 : DataW Unit) (fr : Nat × Nat) (hbp : bp < w.heap.size) (hm : w.cell? ⟨bp, 0, none⟩ = some (.map (some b))) (hown : w.ownsMap Try.prog 3 anyR b nn D0) (hmax : Maps.size D0 ≤ maxLen) (hbytes : Maps.size D0 * 8 ≤ 140737488355328) :
    Calls Try.prog 90 #[.func (.func 123) #[] #[.pointer (some ⟨bp, 0, none⟩)]] w fun e w' => ∃ (v : Value) (ss : List Int), e = .returned v ∧ ss.Perm (intKeys D0) ∧
      w'.ownsRow w.heap.size 3 1 v ss.length ((ss.mergeSort (fun x y => decide (x ≤ y))).map encZ) ∧ (v = .slice none 0 0 ↔ ss = []) ∧ Below w.heap.size w w' := by
  have hseq : SeqGives Fence.wide 2 Try.prog 123 #[.pointer (some ⟨bp, 0, none⟩)] encZ (fun ss => ss.Perm (intKeys D0)) (Maps.size D0) w :=
    AnyZI.keys_gives (ρ := Kl.keysA_ren) { Kl.keysA with } Fence.wide 2 trivial rfl (by omega) bp b nn D0 w hbp hm hown
  have cS := AnyZI.sorted_in Kl.sortedA Fence.wide 5 trivial trivial trivial trivial rfl (by omega) (sortsA _) (enters_of Try.func122 (by kernel_rfl) rfl) 123 #[.pointer (some ⟨bp, 0, none⟩)] trivial (enters_of Try.func123 (by kernel_rfl) rfl) _ _ hmax hbytes w hseq
  exact callsIn_wide.1 cS
theorem sorted_none (w : World) (bp : Nat) (hbp : bp < w.heap.size) (hm : w.cell? ⟨bp, 0, none⟩ = some (.map none)) :
    Calls Try.prog 90 #[.func (.func 123) #[] #[.pointer (some ⟨bp, 0, none⟩)]] w fun e w' => ∃ (v : Value) (ss : List Int), e = .returned v ∧ ss = [] ∧
      w'.ownsRow w.heap.size 3 1 v ss.length ((ss.mergeSort (fun x y => decide (x ≤ y))).map encZ) ∧ (v = .slice none 0 0 ↔ ss = []) ∧ Below w.heap.size w w' := by
  have hseq : SeqGives Fence.wide 2 Try.prog 123 #[.pointer (some ⟨bp, 0, none⟩)] encZ (fun ss : List Int => ss = []) 0 w :=
    AnyZI.keys_gives_nil (ρ := Kl.keysA_ren) { Kl.keysA with } Fence.wide 2 trivial rfl bp w hbp hm
  have cS := AnyZI.sorted_in Kl.sortedA Fence.wide 5 trivial trivial trivial trivial rfl (by omega) (sortsA _) (enters_of Try.func122 (by kernel_rfl) rfl) 123 #[.pointer (some ⟨bp, 0, none⟩)] trivial (enters_of Try.func123 (by kernel_rfl) rfl) _ 0 (Nat.zero_le _) (by omega) w hseq
  exact callsIn_wide.1 cS
theorem insert_perm (x : Lit × DataW Unit) : ∀ l, (DataW.insert x l).Perm (x :: l)
  | [] => List.Perm.refl _
  | y :: r => by
    unfold DataW.insert
    split
    · exact List.Perm.refl _
    · exact ((insert_perm x r).cons y).trans (List.Perm.swap x y r)
theorem foldr_perm : ∀ l : List (Lit × DataW Unit), (l.foldr DataW.insert []).Perm l
  | [] => List.Perm.refl _
  | x :: r => (insert_perm x _).trans ((foldr_perm r).cons x)
theorem wf64 {n : Int} (h : -9223372036854775808 ≤ n ∧ n ≤ 9223372036854775807) : (Lit.int .i64 n).wf = true := by
  simp only [Lit.wf, Bool.and_eq_true, decide_eq_true_eq]
  exact h
open AM in
theorem ibM_owns {l : List (Int × Bool)} {es : Array MapEntry} {clock : Nat} {b : Nat} {w : World} (hb : w.heap[b]? = some (.map es clock)) (hi : MapIs ibM l es clock) (hl : l.length ≤ 2097152) (hk : ∀ k ∈ keysM l, -9223372036854775808 ≤ k ∧ k ≤ 9223372036854775807) :
    ∃ D0 : DataW Unit, w.ownsMap Try.prog 3 anyR b es.size D0 ∧ (intKeys D0).Perm (keysM l) ∧ Maps.size D0 = l.length := by
  obtain ⟨hm, hst⟩ := hi
  have hsz : es.size = l.length := by
    have := congrArg List.length hm
    simpa using this
  have hkey : ∀ x ∈ es.toList, ∃ k, k ∈ keysM l ∧ x.key = .int .i64 k := fun x hx => by
    have : MKind.kv x ∈ es.toList.map MKind.kv := List.mem_map.2 ⟨x, hx, rfl⟩
    rw [hm] at this
    obtain ⟨p, hp, he⟩ := List.mem_map.1 this
    refine ⟨p.1, List.mem_map.2 ⟨p, hp, rfl⟩, ?_⟩
    have := congrArg Prod.fst he
    exact this.symm
  have hrd : ∀ x ∈ es.toList, ∃ k, x.key = .int .i64 k ∧ WideElems.rd Try.prog 3 anyR x = some (.int .i64 k, .nil) := fun x hx => by
    obtain ⟨k, hk1, hk2⟩ := hkey x hx
    refine ⟨k, hk2, ?_⟩
    unfold WideElems.rd
    rw [hk2, keyOf_int_mk Try.underlying3 (wf64 (hk k hk1))]; rfl
  refine ⟨.map ((es.toList.map (WideElems.rg Try.prog 3 anyR)).foldr DataW.insert []), ⟨es, clock, hb, ⟨by rw [hsz]; exact Nat.le_trans hl (by decide), hst, fun x hx => ⟨_, (hrd x hx).choose_spec.2⟩⟩, Nat.le_refl _, rfl⟩, ?_, ?_⟩
  · show (((es.toList.map (WideElems.rg Try.prog 3 anyR)).foldr DataW.insert []).map fun p => Go.intOf p.1).Perm _
    refine ((foldr_perm _).map _).trans ?_
    have : (es.toList.map (WideElems.rg Try.prog 3 anyR)).map (fun p => Go.intOf p.1) = keysM l := by
      have h2 : keysM l = (l.map ibM.enc).map fun p => (match p.1 with | .int _ k => k | _ => 0 : Int) := by
        rw [List.map_map]
        exact List.map_congr_left fun p _ => rfl
      rw [h2, ← hm, List.map_map, List.map_map]
      refine List.map_congr_left fun x hx => ?_
      obtain ⟨k, hk1, hk2⟩ := hrd x hx
      show Go.intOf (WideElems.rg Try.prog 3 anyR x).1 = (match x.key with | .int _ k => k | _ => 0 : Int)
      rw [WideElems.rg_of hk2, hk1]; rfl
    rw [this]
  · show ((es.toList.map (WideElems.rg Try.prog 3 anyR)).foldr DataW.insert []).length = _
    rw [(foldr_perm _).length_eq, List.length_map, Array.length_toList, hsz]
open AM in
theorem cells55 (xs : List Int) : Kind.cells int55 xs = xs.map encZ := by
  induction xs with
  | nil => rfl
  | cons x xs ih =>
    have : Kind.cells int55 (x :: xs) = [encZ x] ++ Kind.cells int55 xs := rfl
    rw [this, ih]; rfl
open AM in
theorem sorted_base (nn : Bool) (l : List (Int × Bool)) (hl : l.length ≤ 2097152) (hk : ∀ k ∈ keysM l, -9223372036854775808 ≤ k ∧ k ≤ 9223372036854775807) :
    TripleF Try.prog 90 [.sc (.fn 123 [(0, 0)])] [.box 118 [.h 1], .mp nn ibM l] (fun r m' => r = .sc (.h 2) ∧ m' = [.box 118 [.h 1], .mp nn ibM l, .slc int55 (sortI (keysM l))]) := by
  intro w0 F env vs w ⟨fp, hf⟩ hr
  refine ⟨fun w => enters_of Try.func90 (by kernel_rfl) rfl _ w, ?_⟩
  obtain ⟨v, _, rfl, ⟨us, rfl, u, _, rfl, ⟨bp, he0, rfl⟩, rfl⟩, rfl⟩ := hr
  obtain ⟨v1, he1⟩ : ∃ v1, env[1]? = some v1 := ⟨env[1]'(by rw [hf.len]; exact Nat.lt_succ_self 1), List.getElem?_eq_getElem _⟩
  obtain ⟨bp', cs, fr, hv, hbp, hcs, _, hfr, hfp⟩ := hf.item 0 _ _ rfl he0
  have hv : bp' = bp := by injection hv with hv; injection hv with hv; injection hv with hv _; exact hv.symm
  subst hv
  have hlt : bp' < w.heap.size := (Array.getElem?_eq_some_iff.1 hbp).1
  obtain ⟨c1, _, rfl, ⟨hc1, _⟩, rfl⟩ := hcs
  rw [he1] at hc1
  cases hc1
  have hcell : w.cell? ⟨bp', 0, none⟩ = some v1 := by simp [World.cell?, hbp]
  have fin : ∀ {e : Ending} {w' : World}, (∃ (v : Value) (ss : List Int), e = .returned v ∧ ss.Perm (keysM l) ∧
      w'.ownsRow w.heap.size 3 1 v ss.length ((ss.mergeSort (fun x y => decide (x ≤ y))).map encZ) ∧ Below w.heap.size w w') →
      ∃ r m' env' v, e = .returned v ∧ (r = .sc (.h 2) ∧ m' = [.box 118 [.h 1], .mp nn ibM l, .slc int55 (sortI (keysM l))]) ∧ Ext env env' ∧ Rep env' r v ∧ MemH w0 F env' m' w' := by
    rintro e w' ⟨v, ss, rfl, hp, hrow, hbw⟩
    have hel : env.length = 2 := hf.len
    have hsort : ss.mergeSort (fun x y => decide (x ≤ y)) = sortI (keysM l) := mergeSort_of_perm_i hp
    have hlen : ss.length = (sortI (keysM l)).length := by rw [← hsort, List.length_mergeSort]
    have hown : w'.ownsRow w.heap.size 3 1 v (sortI (keysM l)).length (Kind.cells int55 (sortI (keysM l))) := by
      rw [cells55, ← hlen, ← hsort]; exact hrow
    refine ⟨.sc (.h 2), _, env ++ [v], v, rfl, ⟨rfl, rfl⟩, Ext.append _ _, ?_, ?_⟩
    · refine ⟨?_, ?_⟩
      · rw [List.getElem?_append_right (by omega), hel]; rfl
      · rcases hown.2 with ⟨rfl, _⟩ | ⟨g, cap, cur, rfl, hg, hgb, _⟩
        · rfl
        · rfl
    · refine ⟨_, hf.snoc (w' := w') (fun k hk => hbw.block k hk) hbw.os hbw.tape hbw.output hbw.size v (.slc int55 (sortI (keysM l))) (fun k => v.ownBlock = some k) (fun k hk => ?_) ⟨?_, fun k => Iff.rfl⟩⟩
      · rcases hown.2 with ⟨rfl, _⟩ | ⟨g, cap, cur, rfl, hg, hgb, _⟩
        · cases hk
        · cases hk
          exact ⟨hg, (Array.getElem?_eq_some_iff.1 hgb).1⟩
      · refine ⟨hown.1, hown.2.imp id ?_⟩
        rintro ⟨g, cap, cur, h1, h2, h3⟩
        exact ⟨g, cap, cur, h1, Nat.zero_le _, h3⟩
  rcases hf.item 1 _ _ rfl he1 with ⟨b, es, clock, rfl, hb, hi, hfp1⟩ | ⟨rfl, rfl, rfl, hfp1⟩
  · obtain ⟨D0, hown, hperm, hsz⟩ := ibM_owns hb hi hl hk
    refine (sorted_some w bp' b es.size D0 fr hlt hcell hown (by rw [hsz]; exact Nat.le_trans hl (by decide)) (by rw [hsz]; omega)).mono ?_
    rintro e w' ⟨v, ss, rfl, hp, hrow, _, hbw⟩
    exact fin ⟨v, ss, rfl, hp.trans hperm, hrow, hbw⟩
  · refine (sorted_none w bp' hlt hcell).mono ?_
    rintro e w' ⟨v, ss, rfl, rfl, hrow, _, hbw⟩
    exact fin ⟨v, [], rfl, List.Perm.refl _, hrow, hbw⟩
end Go.Proofs.Ytljokmmgkecjbaa

namespace Go.Proofs.Ytljokmmgkecjbaa
open Go Go.AM
noncomputable def E91 : Eng := mkEngX Try.prog kinds46b eqT qt46c noSpec noQ maps46 (fun _ _ _ => none) (fun _ => false)
theorem E91_ok : E91.Ok := mkEngX_ok mixedT qt46cok (fun _ _ _ _ h => h.elim) (fun _ _ _ _ _ h => by cases h) eqT_ok maps46_ok (fun _ _ _ _ h => by cases h)
theorem keys_base (nn : Bool) (l : List (Int × Bool)) : TripleF Try.prog 91 [.sc (.h 0)] [.mp nn ibM l] (fun r m' => r = .sc (.fn 123 [(1, 0)]) ∧ m' = [.mp nn ibM l, .box 118 [.h 0]]) := by
  refine triple_of_awp E91_ok Try.func91 rfl (by kernel_rfl) ?_
  conv => whnf
  exact FinF.mk _ (.sc (.fn 123 [(1, 0)])) [.mp nn ibM l, .box 118 [.h 0]] [1] rfl rfl rfl ⟨rfl, ⟨rfl, rfl⟩, trivial⟩ rfl (Nat.le_succ _) ⟨rfl, rfl⟩
noncomputable def keysS (args : List AVal) (m : List AM.Item) (k : AVal → List AM.Item → Prop) : Prop := match args with
  | [.sc (.h t)] => match nth m t .gone with
    | .mp nn M l => CastM M l fun l => snocK m (.box 118 [.h t]) fun m' n => k (.sc (.fn 123 [(n, 0)])) m'
    | _ => False
  | _ => False
theorem keysS_ok {args : List AVal} {m : List AM.Item} {k : AVal → List AM.Item → Prop} (h : keysS args m k) : TripleF Try.prog 91 args m k := by
  unfold keysS at h
  split at h
  · rename_i t
    split at h
    · rename_i nn M l ht
      obtain ⟨l, _, h⟩ := h
      rw [snocK_eq] at h
      exact frame_add (m0 := [.mp nn ibM l]) (extra := [.box 118 [.h 0]]) (keys_base nn l) [t] rfl rfl ⟨ht, trivial⟩ rfl (by simp only [List.all_cons, List.all_nil, Bool.and_true, Nat.blt_eq]; exact nth_lt ht (fun e => by cases e)) h
    · exact h.elim
  · exact h.elim
noncomputable def sortedS (args : List AVal) (m : List AM.Item) (k : AVal → List AM.Item → Prop) : Prop := match args with
  | [.sc (.fn 123 [(c, 0)])] => match nth m c .gone with
    | .box 118 [.h t] => match nth m t .gone with
      | .mp nn M l => CastM M l fun l => Need (l.length ≤ 2097152 ∧ ∀ k ∈ keysM l, -9223372036854775808 ≤ k ∧ k ≤ 9223372036854775807) (snocK m (.slc int55 (sortI (keysM l))) fun m' n => k (.sc (.h n)) m')
      | _ => False
    | _ => False
  | _ => False
theorem sortedS_ok {args : List AVal} {m : List AM.Item} {k : AVal → List AM.Item → Prop} (h : sortedS args m k) : TripleF Try.prog 90 args m k := by
  unfold sortedS at h
  split at h
  · rename_i c
    split at h
    · rename_i t hc
      split at h
      · rename_i nn M l ht
        obtain ⟨l, _, ⟨hl, hk⟩, h⟩ := h
        rw [snocK_eq] at h
        exact frame_add (m0 := [.box 118 [.h 1], .mp nn ibM l]) (extra := [.slc int55 (sortI (keysM l))]) (sorted_base nn l hl hk) [c, t] rfl rfl ⟨rfl, hc, ht, trivial⟩ (by simp [apartP, apart1, nth_ne hc ht (fun e => by cases e)]) (by
          have l1 := nth_lt hc (fun e => by cases e)
          have l2 := nth_lt ht (fun e => by cases e)
          simp [Nat.blt_eq, l1, l2]) h
      · exact h.elim
    · exact h.elim
  · exact h.elim
noncomputable def sp46k (f : FuncId) (args : List AVal) (m : List AM.Item) (k : AVal → List AM.Item → Prop) : Prop := match f with
  | 90 => sortedS args m k
  | 91 => keysS args m k
  | 92 => waitsForS args m k
  | _ => False
theorem sp46k_ok : ∀ f args m k, sp46k f args m k → TripleF Try.prog f args m k := by
  intro f args m k h
  unfold sp46k at h
  split at h
  · exact sortedS_ok h
  · exact keysS_ok h
  · exact waitsForS_ok h
  · exact h.elim
noncomputable def E52 : Eng := mkEngX Try.prog kinds46b eqT qt46c sp46k noQ maps46 (fun _ _ _ => none) (fun _ => false)
theorem E52_ok : E52.Ok := mkEngX_ok mixedT qt46cok sp46k_ok (fun _ _ _ _ _ h => by cases h) eqT_ok maps46_ok (fun _ _ _ _ h => by cases h)
theorem put_len (l : List (Int × Bool)) (k : Int) (v : Bool) : (putL ibM l k v).length ≤ l.length + 1 := by
  induction l with
  | nil => simp [putL]
  | cons p l ih =>
    obtain ⟨a, b⟩ := p
    rw [put_cons]
    split <;> simp <;> omega
theorem stepA_len {l : Lk} : ∀ (xs : List Lk) (acc : List (Int × Bool)), (xs.foldl (stepA l) acc).length ≤ acc.length + xs.length
  | [], _ => by simp
  | x :: xs, acc => by
    rw [List.foldl_cons]
    refine Nat.le_trans (stepA_len xs _) ?_
    unfold stepA
    split
    · have := put_len acc x.u true
      simp only [addK, List.length_cons] at *; omega
    · simp only [List.length_cons]; omega
theorem stepB_len {l : Lk} {own : List Lk} : ∀ (xs : List Lk) (acc : List (Int × Bool)), (xs.foldl (stepB l own) acc).length ≤ acc.length + xs.length
  | [], _ => by simp
  | x :: xs, acc => by
    rw [List.foldl_cons]
    refine Nat.le_trans (stepB_len xs _) ?_
    unfold stepB
    split
    · have := put_len acc x.u true
      simp only [addK, List.length_cons] at *; omega
    · simp only [List.length_cons]; omega
theorem blk_len (held before : List Lk) (l : Lk) : (blkM held before l).length ≤ held.length + before.length := by
  unfold blkM
  refine Nat.le_trans (stepB_len _ _) ?_
  have := stepA_len (l := l) held []
  simp at this; omega
theorem wait_len (held queue : List Lk) (u : Int) : (waitM held queue u).length ≤ held.length + queue.length := by
  unfold waitM
  split
  · refine Nat.le_trans (blk_len _ _ _) ?_
    rw [List.length_take]; omega
  · simp
def okU (xs : List Lk) : Prop := ∀ x ∈ xs, -9223372036854775808 ≤ x.u ∧ x.u ≤ 9223372036854775807
noncomputable def blockersL (held queue : List Lk) (u : Int) : List Int := sortI (keysM (waitM held queue u))
theorem wait_range {held queue : List Lk} (h : okU (held ++ queue)) {u k : Int} (hk : k ∈ keysM (waitM held queue u)) : -9223372036854775808 ≤ k ∧ k ≤ 9223372036854775807 := by
  obtain ⟨x, hx, rfl⟩ := List.mem_map.1 (edge_units (n := u) hk)
  exact h x hx
theorem blockers_base (held queue : List Lk) (u : Int) (hb : held.length ≤ 1048576) (hq : queue.length ≤ 1048576) (hu : okU (held ++ queue)) : TripleF Try.prog 52 [.sc (.fld 0 0), .sc (.int false .i64 u)] (mgr held queue) (fun r m' => r = .sc (.h 3) ∧ m' = mgr held queue ++ [.slc int55 (blockersL held queue u)]) := by
  refine triple_of_awp E52_ok Try.func52 rfl (by kernel_rfl) ?_
  conv => whnf
  refine Need.mk (by decide) (Cast.mk _ _ (Cast.mk _ _ (Need.mk ⟨hb, hq⟩ ?_)))
  conv => whnf
  refine CastM.mk _ _ ?_
  conv => whnf
  refine CastM.mk _ _ ?_
  have hlen := wait_len held queue u
  refine Need.mk ⟨by omega, fun k hk => wait_range hu hk⟩ ?_
  conv => whnf
  exact FinF.mk _ (.sc (.h 3)) [.box 112 [.h 1, .h 2], .slc lockK held, .slc lockK queue, .slc int55 (blockersL held queue u)] [5] rfl rfl rfl ⟨⟨rfl, rfl⟩, rfl, rfl, rfl, trivial⟩ rfl (Nat.le_succ _) ⟨rfl, rfl⟩
end Go.Proofs.Ytljokmmgkecjbaa

namespace Go.Proofs.Ytljokmmgkecjbaa
open Go Go.AM
/-! the examples of the chapter -/
def lk1 (u : Int) (lo hi : ByteArray) (x : Bool) : Lk := ⟨u, 1, lo, hi, false, x⟩
theorem l_ok (u : Int) (lo hi : ByteArray) (x : Bool) {m K} (hk : K (.agg [.int false .i64 u, .int false .i64 1, .str lo, .str hi, .bool false, .bool x]) m) : TripleF Try.prog 88 [.sc (.int false .i64 u), .sc (.str lo), .sc (.str hi), .sc (.bool x)] m K := by
  refine pure_of_awp (R := fun r' => r' = .agg [.int false .i64 u, .int false .i64 1, .str lo, .str hi, .bool false, .bool x]) E46cok Try.func88 rfl (by kernel_rfl) rfl ?_ (fun r h => h ▸ hk)
  clear hk
  conv => whnf
noncomputable def qt46d : QTab := fun f args => match f, args with
  | 88, [.sc (.int _ .i64 u), .sc (.str lo), .sc (.str hi), .sc (.bool x)] => some (none, .agg [.int false .i64 u, .int false .i64 1, .str lo, .str hi, .bool false, .bool x])
  | f, args => qt46c f args
theorem qt46dok : qt46d.Ok Try.prog := by
  intro f args p r h hp m k hk
  unfold qt46d at h
  split at h
  · cases h; exact TripleF.std (l_ok _ _ _ _ hk)
  · exact qt46cok f args p r h hp m k hk
def bB (n : UInt8) : ByteArray := ⟨#[n]⟩
noncomputable abbrev A1 : Lk := lk1 1 (bB 97) (bB 99) false
noncomputable abbrev B2 : Lk := lk1 2 (bB 98) (bB 98) true
noncomputable abbrev B1 : Lk := lk1 1 (bB 98) (bB 98) true
noncomputable abbrev B3 : Lk := lk1 3 (bB 98) (bB 98) false
noncomputable abbrev X2 : Lk := lk1 2 (bB 120) (bB 120) false
noncomputable abbrev X3 : Lk := lk1 3 (bB 120) (bB 120) true
noncomputable abbrev Y2 : Lk := lk1 2 (bB 121) (bB 120) true
theorem no_reach {held queue : List Lk} {B : List (Int × Bool)} {unit : Int} (C : List Int) (hB : ∀ k ∈ keysM B, k ∈ C) (h : ∀ x ∈ C, x ≠ unit ∧ ∀ k ∈ keysM (waitM held queue x), k ∈ C) : reachB held queue B unit = false := by
  refine reach_no ?_
  rintro ⟨k, hk, hr⟩
  have key : ∀ a b, Reach held queue a b → a ∈ C → b ≠ unit := fun a b hr => by
    induction hr with
    | refl n => exact fun ha => (h n ha).1
    | step he _ ih => exact fun ha => ih ((h _ ha).2 _ he)
  exact key _ _ hr (hB k hk) rfl
theorem ask_busy {held queue : List Lk} {l : Lk} (C : List Int) (he : (blkM held queue l).isEmpty = false) (hB : ∀ k ∈ keysM (blkM held queue l), k ∈ C) (h : ∀ x ∈ C, x ≠ l.u ∧ ∀ k ∈ keysM (waitM held queue x), k ∈ C) : askL held queue l = (15, held, queue ++ [l]) := by
  simp only [askL, he, no_reach C hB h]
theorem ask_free {held queue : List Lk} {l : Lk} (he : (blkM held queue l).isEmpty = true) : askL held queue l = (0, held ++ [l], queue) := by
  simp only [askL, he]
theorem req_new {held queue : List Lk} {l : Lk} (h1 : validL l = true) (h2 : held.any (covB l) = false) (h3 : queue.any (ofB l.u) = false) : reqL held queue l = askL held queue l := by
  simp only [reqL, h1, h2, h3]
theorem a1 : reqL [] [] A1 = (0, [A1], []) := by
  rw [req_new (by kernel_rfl) (by kernel_rfl) (by kernel_rfl), ask_free (by kernel_rfl)]; rfl
theorem a2 : reqL [A1] [] B2 = (15, [A1], [B2]) := by
  rw [req_new (by kernel_rfl) (by kernel_rfl) (by kernel_rfl), ask_busy [1] (by kernel_rfl) (of_decide_eq_true (by kernel_rfl)) (of_decide_eq_true (by kernel_rfl))]; rfl
theorem a3 : reqL [A1] [B2] B1 = (0, [A1, B1], [B2]) := by
  rw [req_new (by kernel_rfl) (by kernel_rfl) (by kernel_rfl), ask_free (by kernel_rfl)]; rfl
theorem a4 : reqL [A1, B1] [B2] B3 = (15, [A1, B1], [B2, B3]) := by
  rw [req_new (by kernel_rfl) (by kernel_rfl) (by kernel_rfl), ask_busy [1, 2] (by kernel_rfl) (of_decide_eq_true (by kernel_rfl)) (of_decide_eq_true (by kernel_rfl))]; rfl
theorem a5 : reqL [A1, B1] [B2, B3] B2 = (15, [A1, B1], [B2, B3]) := by
  simp only [reqL, show validL B2 = true by kernel_rfl, show [A1, B1].any (covB B2) = false by kernel_rfl, show [B2, B3].any (ofB B2.u) = true by kernel_rfl, show eqL ([B2, B3].getD ([B2, B3].findIdx (ofB B2.u)) lk0) B2 = true by kernel_rfl]
theorem a6 : relL [A1, B1] [B2, B3] 1 = ([B2], [B3], [2]) := by kernel_rfl
theorem a7 : keysM (waitM [B2] [B3] 3) = [2] := by kernel_rfl
theorem a8 : reqL [B2] [B3] X2 = (0, [B2, X2], [B3]) := by
  rw [req_new (by kernel_rfl) (by kernel_rfl) (by kernel_rfl), ask_free (by kernel_rfl)]; rfl
theorem a9 : reqL [B2, X2] [B3] X3 = (15, [B2, X2], [X3]) := by
  have hg : grantL [B2, X2] [] ([B3].filter (notB X3.u)) = ([B2, X2], [], []) := by kernel_rfl
  simp only [reqL, show validL X3 = true by kernel_rfl, show [B2, X2].any (covB X3) = false by kernel_rfl, show [B3].any (ofB X3.u) = true by kernel_rfl, show eqL ([B3].getD ([B3].findIdx (ofB X3.u)) lk0) X3 = false by kernel_rfl, hg]
  rw [ask_busy [2] (by kernel_rfl) (of_decide_eq_true (by kernel_rfl)) (of_decide_eq_true (by kernel_rfl))]; rfl
theorem a10 : (reqL [B2, X2] [X3] Y2) = (1, [B2, X2], [X3]) := by
  simp only [reqL, show validL Y2 = false by kernel_rfl]
noncomputable def blockersS (args : List AVal) (m : List AM.Item) (k : AVal → List AM.Item → Prop) : Prop := match args with
  | [.sc (.fld t 0), .sc (.int _ .i64 u)] => mgrS t m fun a b xs ys => Need (xs.length ≤ 1048576 ∧ ys.length ≤ 1048576 ∧ okU (xs ++ ys)) (snocK m (.slc int55 (blockersL xs ys u)) fun m' n => k (.sc (.h n)) m')
  | _ => False
theorem blockersS_ok {args : List AVal} {m : List AM.Item} {k : AVal → List AM.Item → Prop} (h : blockersS args m k) : TripleF Try.prog 52 args m k := by
  unfold blockersS at h
  split at h
  · rename_i t _ u
    obtain ⟨a, b, xs, ys, ⟨⟨hx, hy, hu⟩, h⟩, h1, h2, h3⟩ := mgrS_get h
    rw [snocK_eq] at h
    exact TripleF.std (frame_add (blockers_base xs ys u hx hy hu) [t, a, b] rfl rfl h1 h2 h3 h)
  · exact h.elim
noncomputable def sp46a (f : FuncId) (args : List AVal) (m : List AM.Item) (k : AVal → List AM.Item → Prop) : Prop := match f with
  | 49 => newS args m k
  | 52 => blockersS args m k
  | 63 => requestS args m k
  | 72 => releaseS args m k
  | _ => False
theorem sp46a_ok : ∀ f args m k, sp46a f args m k → TripleF Try.prog f args m k := by
  intro f args m k h
  unfold sp46a at h
  split at h
  · exact newS_ok h
  · exact blockersS_ok h
  · exact requestS_ok h
  · exact releaseS_ok h
  · exact h.elim
noncomputable def E48 : Eng := mkEngX Try.prog kinds46b eqT qt46d sp46a noQ maps46 (fun _ _ _ => none) (fun _ => false)
theorem E48_ok : E48.Ok := mkEngX_ok mixedT qt46dok sp46a_ok (fun _ _ _ _ _ h => by cases h) eqT_ok maps46_ok (fun _ _ _ _ h => by cases h)
theorem a7u : okU ([B2] ++ [B3]) := by
  intro x hx
  rcases List.mem_cons.1 hx with rfl | hx
  · exact ⟨by decide, by decide⟩
  · rcases List.mem_cons.1 hx with rfl | hx
    · exact ⟨by decide, by decide⟩
    · cases hx
theorem a7b : blockersL [B2] [B3] 3 = [2] := by
  rw [blockersL, a7]; exact List.mergeSort_singleton _
theorem awake_base : TripleF Try.prog 48 [] [] (fun r m' => r = .sc (.bool true) ∧ m' = []) := by
  refine triple_of_awp E48_ok Try.func48 rfl (by kernel_rfl) ?_
  conv => whnf
  refine Need.mk (show 1 ≠ 2 by decide) (Cast.mk _ _ (Cast.mk _ _ (Need.mk (show 0 + 0 < 1048576 by decide) ?_)))
  conv => whnf
  have h1 : reqL [] [] { u := 1, i := 1, lo := { data := #[97] }, hi := { data := #[99] }, e := false, x := false } = (0, [A1], []) := a1
  rw [h1]
  refine Br.mk (fun c => absurd (show ((0 : Int) != 0) = true from c) (by decide)) (fun c => ?_)
  conv => whnf
  refine Need.mk (show 4 ≠ 5 by decide) (Cast.mk _ _ (Cast.mk _ _ (Need.mk (show 1 + 0 < 1048576 by decide) ?_)))
  conv => whnf
  have h2 : reqL ((0 : Int), [A1], ([] : List Lk)).snd.fst ((0 : Int), [A1], ([] : List Lk)).snd.snd { u := 2, i := 1, lo := { data := #[98] }, hi := { data := #[98] }, e := false, x := true } = (15, [A1], [B2]) := a2
  rw [h2]
  refine Br.mk (fun c => absurd (show ((15 : Int) != 15) = true from c) (by decide)) (fun c => ?_)
  conv => whnf
  refine Need.mk (by decide) (Cast.mk _ _ (Cast.mk _ _ (Need.mk (show 1 + 1 < 1048576 by decide) ?_)))
  conv => whnf
  have h3 : reqL ((15 : Int), [A1], ([B2] : List Lk)).snd.fst ((15 : Int), [A1], ([B2] : List Lk)).snd.snd { u := 1, i := 1, lo := { data := #[98] }, hi := { data := #[98] }, e := false, x := true } = (0, [A1, B1], [B2]) := a3
  rw [h3]
  refine Br.mk (fun c => absurd (show ((0 : Int) != 0) = true from c) (by decide)) (fun c => ?_)
  conv => whnf
  refine Need.mk (by decide) (Cast.mk _ _ (Cast.mk _ _ (Need.mk (show 2 + 1 < 1048576 by decide) ?_)))
  conv => whnf
  have h4 : reqL ((0 : Int), [A1, B1], ([B2] : List Lk)).snd.fst ((0 : Int), [A1, B1], ([B2] : List Lk)).snd.snd { u := 3, i := 1, lo := { data := #[98] }, hi := { data := #[98] }, e := false, x := false } = (15, [A1, B1], [B2, B3]) := a4
  rw [h4]
  refine Br.mk (fun c => absurd (show ((15 : Int) != 15) = true from c) (by decide)) (fun c => ?_)
  conv => whnf
  refine Need.mk (by decide) (Cast.mk _ _ (Cast.mk _ _ (Need.mk (show 2 + 2 < 1048576 by decide) ?_)))
  conv => whnf
  have h5 : reqL ((15 : Int), [A1, B1], ([B2, B3] : List Lk)).snd.fst ((15 : Int), [A1, B1], ([B2, B3] : List Lk)).snd.snd { u := 2, i := 1, lo := { data := #[98] }, hi := { data := #[98] }, e := false, x := true } = (15, [A1, B1], [B2, B3]) := a5
  rw [h5]
  refine Br.mk (fun c => absurd (show ((15 : Int) != 15) = true from c) (by decide)) (fun c => ?_)
  conv => whnf
  refine Need.mk (by decide) (Cast.mk _ _ (Cast.mk _ _ (Need.mk (show 2 + 2 ≤ 1048576 by decide) ?_)))
  have h6 : relL ((15 : Int), [A1, B1], ([B2, B3] : List Lk)).snd.fst ((15 : Int), [A1, B1], ([B2, B3] : List Lk)).snd.snd 1 = ([B2], [B3], [2]) := a6
  rw [h6]
  conv => whnf
  refine Know.mk fun _ => ?_
  conv => whnf
  refine Br.mk (fun c => absurd (show (((1 : Nat) : Int) != 1) = true from c) (by decide)) (fun c => ?_)
  conv => whnf
  refine Need.mk (show 0 ≤ (0 : Int) ∧ (0 : Int) < ((1 : Nat) : Int) by decide) ?_
  conv => whnf
  refine Br.mk (fun c => absurd (show ((2 : Int) != 2) = true from c) (by decide)) (fun c => ?_)
  conv => whnf
  refine Need.mk (by decide) (Cast.mk _ _ (Cast.mk _ _ (Need.mk ⟨(show 1 ≤ 1048576 by decide), (show 1 ≤ 1048576 by decide), a7u⟩ ?_)))
  have h7 : blockersL ([B2], [B3], ([2] : List Int)).fst ([B2], [B3], ([2] : List Int)).snd.fst 3 = [2] := a7b
  rw [h7]
  conv => whnf
  refine Know.mk fun _ => ?_
  conv => whnf
  refine Br.mk (fun _ => ?_) (fun c => absurd (show (((1 : Nat) : Int) == 1) = false from c) (by decide))
  conv => whnf
  refine Need.mk (show 0 ≤ (0 : Int) ∧ (0 : Int) < ((1 : Nat) : Int) by decide) ?_
  conv => whnf
  refine Br.mk (fun _ => ?_) (fun c => absurd (show ((2 : Int) == 2) = false from c) (by decide))
  conv => whnf
  refine Need.mk (by decide) (Cast.mk _ _ (Cast.mk _ _ (Need.mk (show 1 + 1 < 1048576 by decide) ?_)))
  have h8 : reqL ([B2], [B3], ([2] : List Int)).fst ([B2], [B3], ([2] : List Int)).snd.fst { u := 2, i := 1, lo := { data := #[120] }, hi := { data := #[120] }, e := false, x := false } = (0, [B2, X2], [B3]) := a8
  rw [h8]
  conv => whnf
  refine Br.mk (fun _ => ?_) (fun c => absurd (show ((0 : Int) == 0) = false from c) (by decide))
  conv => whnf
  refine Need.mk (by decide) (Cast.mk _ _ (Cast.mk _ _ (Need.mk (show 2 + 1 < 1048576 by decide) ?_)))
  have h9 : reqL ((0 : Int), [B2, X2], ([B3] : List Lk)).snd.fst ((0 : Int), [B2, X2], ([B3] : List Lk)).snd.snd { u := 3, i := 1, lo := { data := #[120] }, hi := { data := #[120] }, e := false, x := true } = (15, [B2, X2], [X3]) := a9
  rw [h9]
  conv => whnf
  refine Br.mk (fun _ => ?_) (fun c => absurd (show ((15 : Int) == 15) = false from c) (by decide))
  conv => whnf
  refine Need.mk (by decide) (Cast.mk _ _ (Cast.mk _ _ (Need.mk (show 2 + 1 < 1048576 by decide) ?_)))
  have h10 : reqL ((15 : Int), [B2, X2], ([X3] : List Lk)).snd.fst ((15 : Int), [B2, X2], ([X3] : List Lk)).snd.snd { u := 2, i := 1, lo := { data := #[121] }, hi := { data := #[120] }, e := false, x := true } = (1, [B2, X2], [X3]) := a10
  rw [h10]
  conv => whnf

  exact FinF.mk _ (.sc (.bool true)) [] [] rfl rfl rfl trivial rfl (Nat.le_refl _) ⟨rfl, rfl⟩
end Go.Proofs.Ytljokmmgkecjbaa
