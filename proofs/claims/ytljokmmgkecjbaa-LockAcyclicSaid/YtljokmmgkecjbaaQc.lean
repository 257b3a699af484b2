/- Lemmas for the claim's theorem. -/
import Derived.Test.YtljokmmgkecjbaaQb
import Derived.Sort.Walk0
import Derived.Lib.Bytealg
import Derived.Lib.Strings
import Derived.Test.YtljokmmgkecjbaaProg
import Derived.KernelRfl
import Derived.Shelf.Small.Strs
import Derived.Lib.Split
import Derived.Laws.StructEq
import Derived.ProofKit
import Derived.OpenShut
import Derived.ShutString
import Derived.ChangeOld
import Derived.Below
import Derived.SizedLaws
import Derived.Lib.SmallJoins
set_option linter.unusedVariables false
set_option linter.unusedSimpArgs false
set_option maxRecDepth 100000
namespace Go.AM
open Go
def sLess (a b : ByteArray) : Bool := Op.bytesLess a.toList b.toList
def sEq (a b : ByteArray) : Bool := a.toList == b.toList
theorem sLess_iff {a b : ByteArray} : sLess a b = true ↔ a.data.toList < b.data.toList := by
  unfold sLess
  rw [Go.Proofs.bytesLess_eq, Go.Lib.toList_data, Go.Lib.toList_data, decide_eq_true_iff]
theorem sEq_iff {a b : ByteArray} : sEq a b = true ↔ a = b := by
  unfold sEq
  rw [Go.Lib.toList_data, Go.Lib.toList_data, beq_iff_eq]
  constructor
  · intro h
    cases a; cases b; simp only [ByteArray.mk.injEq]; exact Array.toList_inj.1 h
  · rintro rfl; rfl
theorem sLess_irrefl (a : ByteArray) : sLess a a = false := by
  cases h : sLess a a with
  | false => rfl
  | true => exact absurd (sLess_iff.1 h) (List.lt_irrefl _)
theorem sLess_trans {a b c : ByteArray} (h : sLess a b = true) (k : sLess b c = true) : sLess a c = true :=
  sLess_iff.2 (List.lt_trans (sLess_iff.1 h) (sLess_iff.1 k))
theorem sLess_tri (a b : ByteArray) : sLess a b = true ∨ a = b ∨ sLess b a = true := by
  by_cases h : sLess a b = true
  · exact .inl h
  · by_cases k : sLess b a = true
    · exact .inr (.inr k)
    · rw [sLess_iff] at h k
      have := List.le_antisymm (show a.data.toList ≤ b.data.toList from k) (show b.data.toList ≤ a.data.toList from h)
      exact .inr (.inl (sEq_iff.1 (by unfold sEq; rw [Go.Lib.toList_data, Go.Lib.toList_data, beq_iff_eq]; exact this)))

/-- a finite set of strings, ranked: their order is that of numbers -/
def rankS (L : List ByteArray) (s : ByteArray) : Int := ((L.filter fun t => sLess t s).length : Int)
theorem rank_le (L : List ByteArray) {s t : ByteArray} (h : sLess s t = true ∨ s = t) : rankS L s ≤ rankS L t := by
  unfold rankS
  have : (L.filter fun u => sLess u s).length ≤ (L.filter fun u => sLess u t).length := by
    induction L with
    | nil => simp
    | cons u L ih =>
      simp only [List.filter_cons]
      by_cases hu : sLess u s = true
      · have ht : sLess u t = true := by
          rcases h with h | rfl
          · exact sLess_trans hu h
          · exact hu
        rw [if_pos hu, if_pos ht]; simp only [List.length_cons]; omega
      · rw [if_neg hu]; split <;> (try simp only [List.length_cons]) <;> omega
  omega
theorem rank_lt {L : List ByteArray} {s t : ByteArray} (hs : s ∈ L) (h : sLess s t = true) : rankS L s < rankS L t := by
  unfold rankS
  have key : ∀ L : List ByteArray, (L.filter fun u => sLess u s).length ≤ (L.filter fun u => sLess u t).length := fun L => by
    have := rank_le L (s := s) (t := t) (.inl h); unfold rankS at this; omega
  have : (L.filter fun u => sLess u s).length < (L.filter fun u => sLess u t).length := by
    induction L with
    | nil => simp at hs
    | cons u L ih =>
      simp only [List.filter_cons]
      by_cases hu : u = s
      · subst hu
        have := key L
        simp [sLess_irrefl, h]; omega
      · have hs' : s ∈ L := by
          rcases List.mem_cons.1 hs with e | e
          · exact absurd e.symm hu
          · exact e
        have := ih hs'
        by_cases hus : sLess u s = true
        · simp [hus, sLess_trans hus h]; omega
        · rw [if_neg hus]; split <;> simp <;> omega
  omega
theorem rank_sLess {L : List ByteArray} {s t : ByteArray} (hs : s ∈ L) (ht : t ∈ L) : sLess s t = decide (rankS L s < rankS L t) := by
  rcases sLess_tri s t with h | rfl | h
  · rw [h, decide_eq_true (rank_lt hs h)]
  · rw [sLess_irrefl, decide_eq_false (by omega)]
  · have := rank_lt ht h
    rw [decide_eq_false (by omega)]
    cases k : sLess s t with
    | false => rfl
    | true => have := sLess_trans h k; rw [sLess_irrefl] at this; cases this
theorem rank_sEq {L : List ByteArray} {s t : ByteArray} (hs : s ∈ L) (ht : t ∈ L) : sEq s t = decide (rankS L s = rankS L t) := by
  rcases sLess_tri s t with h | rfl | h
  · have := rank_lt hs h
    rw [decide_eq_false (by omega)]
    cases k : sEq s t with
    | false => rfl
    | true => rw [sEq_iff.1 k, sLess_irrefl] at h; cases h
  · rw [sEq_iff.2 rfl, decide_eq_true rfl]
  · have := rank_lt ht h
    rw [decide_eq_false (by omega)]
    cases k : sEq s t with
    | false => rfl
    | true => rw [sEq_iff.1 k, sLess_irrefl] at h; cases h

def cmpS' (a b : ByteArray) : Int := Lib.compareBytes a.data.toList b.data.toList
theorem cmpL_le : ∀ a b : List UInt8, decide (Lib.compareBytes a b ≤ 0) = !Op.bytesLess b a
  | [], [] => by decide
  | [], _ :: _ => by simp [Lib.compareBytes, Op.bytesLess]
  | _ :: _, [] => by simp [Lib.compareBytes, Op.bytesLess]
  | a :: x, b :: y => by
    have ih := cmpL_le x y
    simp only [Lib.compareBytes, Op.bytesLess]
    by_cases h1 : a < b
    · have h2 : ¬ b < a := fun h => absurd (UInt8.lt_trans h1 h) (UInt8.lt_irrefl _)
      have h3 : ¬ b = a := fun h => by subst h; exact UInt8.lt_irrefl _ h1
      simp [h1, h2, h3]
    · by_cases h2 : b < a
      · simp [h1, h2]
      · have h3 : b = a := by
          exact Classical.byContradiction fun hn => by
            rcases UInt8.lt_or_lt_of_ne (a := b) (b := a) hn with h | h
            · exact h2 h
            · exact h1 h
        subst h3
        simp only [ih, UInt8.lt_irrefl, decide_false, beq_self_eq_true, Bool.true_and, Bool.false_or, if_false]
end Go.AM

namespace Go.Proofs.Ytljokmmgkecjbaa
open Go Go.AM

theorem mixedT : Try.prog.follows .mixedOrders = true := by kernel_rfl
noncomputable def E0 : Eng := mkEng Try.prog (fun _ => none) noEq noQT noSpec noQ
theorem E0ok : E0.Ok := mkEng_ok mixedT (fun _ _ _ _ h => by cases h) (fun _ _ _ _ h => h.elim) (fun _ _ _ _ _ h => by cases h) (fun _ _ _ _ h => by cases h)

/-! plain functions -/
def strE : ByteArray := ⟨#[]⟩

structure Rng where
  lo : ByteArray
  hi : ByteArray
  e : Bool
def Rng.A (r : Rng) : AVal := .agg [.str r.lo, .str r.hi, .bool r.e]
def inB (r : Rng) (k : ByteArray) : Bool := !sLess k r.lo && (r.e || (sLess k r.hi || sEq k r.hi))
def emptyB (r : Rng) : Bool := !r.e && sLess r.hi r.lo
def meetR (a b : Rng) : Rng := ⟨maxS a.lo b.lo, if a.e && b.e then strE else if a.e then b.hi else if b.e then a.hi else minS a.hi b.hi, a.e && b.e⟩

theorem within_ok (a b c : Int) {m k} (hk : k (.sc (.bool (decide (b ≤ a) && decide (a ≤ c)))) m) : TripleF Try.prog 83 [.sc (.int false .i64 a), .sc (.int false .i64 b), .sc (.int false .i64 c)] m k := by
  refine pure_of_awp (R := fun r => r = .sc (.bool (decide (b ≤ a) && decide (a ≤ c)))) E0ok Try.func83 rfl (by kernel_rfl) rfl ?_ (fun r h => h ▸ hk)
  refine Br.mk (fun h => ?_) (fun h => ?_)
  · conv => whnf
    rw [show decide (b ≤ a) = true from h, Bool.true_and]
  · conv => whnf
    rw [show decide (b ≤ a) = false from h, Bool.false_and]
theorem between_ok (a b c : Int) {m k} (hk : k (.sc (.bool (decide (b ≤ a) && decide (a ≤ c)))) m) : TripleF Try.prog 86 [.sc (.int false .i64 a), .sc (.int false .i64 b), .sc (.int false .i64 c)] m k := by
  refine pure_of_awp (R := fun r => r = .sc (.bool (decide (b ≤ a) && decide (a ≤ c)))) E0ok Try.func86 rfl (by kernel_rfl) rfl ?_ (fun r h => h ▸ hk)
  refine Br.mk (fun h => ?_) (fun h => ?_)
  · conv => whnf
    rw [show decide (b ≤ a) = true from h, Bool.true_and]
  · conv => whnf
    rw [show decide (b ≤ a) = false from h, Bool.false_and]

noncomputable def spec1 (f : FuncId) (args : List AVal) (m : List AM.Item) (k : AVal → List AM.Item → Prop) : Prop :=
  match f with
  | 84 => inlineSpec E0 Try.f84 args m k
  | _ => False
noncomputable def E1 : Eng := mkEng Try.prog (fun _ => none) noEq noQT spec1 noQ
theorem E1ok : E1.Ok := by
  refine mkEng_ok mixedT (fun _ _ _ _ h => by cases h) (fun f args m k h => ?_) (fun _ _ _ _ _ h => by cases h) (fun _ _ _ _ h => by cases h)
  unfold spec1 at h
  split at h
  · exact inline_ok E0ok Try.func84 (by kernel_rfl) h
  · exact h.elim
theorem in_ok (r : Rng) (k : ByteArray) {m K} (hk : K (.sc (.bool (inB r k))) m) : TripleF Try.prog 32 [r.A, .sc (.str k)] m K := by
  obtain ⟨lo, hi, e⟩ := r
  refine pure_of_awp (R := fun r' => r' = .sc (.bool (inB ⟨lo, hi, e⟩ k))) E1ok Try.func32 rfl (by kernel_rfl) rfl ?_ (fun r h => h ▸ hk)
  refine Br.mk (fun h => ?_) (fun h => ?_)
  · refine Br.mk (fun h2 => ?_) (fun h2 => ?_)
    · conv => whnf
      cases e <;> simp_all [inB, sLess, sEq]
    · conv => whnf
      cases e <;> simp_all [inB, sLess, sEq]
  · conv => whnf
    simp_all [inB, sLess, sEq]
theorem rin_ok (r : Rng) (k : ByteArray) {m K} (hk : K (.sc (.bool (inB r k))) m) : TripleF Try.prog 39 [r.A, .sc (.str k)] m K := by
  obtain ⟨lo, hi, e⟩ := r
  refine pure_of_awp (R := fun r' => r' = .sc (.bool (inB ⟨lo, hi, e⟩ k))) E0ok Try.func39 rfl (by kernel_rfl) rfl ?_ (fun r h => h ▸ hk)
  refine Br.mk (fun h => ?_) (fun h => ?_)
  · refine Br.mk (fun h2 => ?_) (fun h2 => ?_)
    · conv => whnf
      cases e <;> simp_all [inB, sLess, sEq]
    · conv => whnf
      cases e <;> simp_all [inB, sLess, sEq]
  · conv => whnf
    simp_all [inB, sLess, sEq]
theorem rempty_ok (r : Rng) {m K} (hk : K (.sc (.bool (emptyB r))) m) : TripleF Try.prog 40 [r.A] m K := by
  obtain ⟨lo, hi, e⟩ := r
  refine pure_of_awp (R := fun r' => r' = .sc (.bool (emptyB ⟨lo, hi, e⟩))) E0ok Try.func40 rfl (by kernel_rfl) rfl ?_ (fun r h => h ▸ hk)
  refine Br.mk (fun h => ?_) (fun h => ?_)
  · conv => whnf
    cases e <;> simp_all [emptyB, sLess, sEq]
  · conv => whnf
    cases e <;> simp_all [emptyB, sLess, sEq]
theorem meet_ok (a b : Rng) {m K} (hk : K (meetR a b).A m) : TripleF Try.prog 34 [a.A, b.A] m K := by
  obtain ⟨lo, hi, e⟩ := a
  obtain ⟨lo2, hi2, e2⟩ := b
  refine pure_of_awp (R := fun r' => r' = (meetR ⟨lo, hi, e⟩ ⟨lo2, hi2, e2⟩).A) E0ok Try.func34 rfl (by kernel_rfl) rfl ?_ (fun r h => h ▸ hk)
  repeat' (refine Br.mk (fun h => ?_) (fun h => ?_))
  all_goals (conv => whnf)
  all_goals (cases e <;> cases e2 <;> simp_all [meetR, Rng.A, strE])
theorem rmeet_ok (a b : Rng) {m K} (hk : K (meetR a b).A m) : TripleF Try.prog 41 [a.A, b.A] m K := by
  obtain ⟨lo, hi, e⟩ := a
  obtain ⟨lo2, hi2, e2⟩ := b
  refine pure_of_awp (R := fun r' => r' = (meetR ⟨lo, hi, e⟩ ⟨lo2, hi2, e2⟩).A) E0ok Try.func41 rfl (by kernel_rfl) rfl ?_ (fun r h => h ▸ hk)
  repeat' (refine Br.mk (fun h => ?_) (fun h => ?_))
  all_goals (conv => whnf)
  all_goals (cases e <;> cases e2 <;> simp_all [meetR, Rng.A, strE])
theorem succ_ok (s : ByteArray) (hs : s.size + 1 ≤ 9223372036854775807) {m K} (hk : K (.sc (.str (s ++ ⟨#[0]⟩))) m) : TripleF Try.prog 29 [.sc (.str s)] m K := by
  refine pure_of_awp (R := fun r' => r' = .sc (.str (s ++ ⟨#[0]⟩))) E0ok Try.func29 rfl (by kernel_rfl) rfl ?_ (fun r h => h ▸ hk)
  refine Need.mk hs ?_
  conv => whnf
theorem point_ok (s : ByteArray) {m K} (hk : K (Rng.A ⟨s, s, false⟩) m) : TripleF Try.prog 45 [.sc (.str s)] m K := by
  refine pure_of_awp (R := fun r' => r' = Rng.A ⟨s, s, false⟩) E0ok Try.func45 rfl (by kernel_rfl) rfl ?_ (fun r h => h ▸ hk)
  conv => whnf
  rfl
theorem from_ok (s : ByteArray) {m K} (hk : K (Rng.A ⟨s, strE, true⟩) m) : TripleF Try.prog 46 [.sc (.str s)] m K := by
  refine pure_of_awp (R := fun r' => r' = Rng.A ⟨s, strE, true⟩) E0ok Try.func46 rfl (by kernel_rfl) rfl ?_ (fun r h => h ▸ hk)
  conv => whnf
  rfl

/-- the length of the common beginning, from a place on -/
def frontFrom : List UInt8 → List UInt8 → Nat
  | a :: l, b :: l' => if a = b then frontFrom l l' + 1 else 0
  | _, _ => 0
def front (a b : ByteArray) : Nat := frontFrom a.data.toList b.data.toList
theorem drop_cons {l : List UInt8} {k : Nat} (h : k < l.length) : l.drop k = l.getD k 0 :: l.drop (k + 1) := by
  rw [List.drop_eq_getElem_cons h, List.getD_eq_getElem?_getD, List.getElem?_eq_getElem h]; rfl
theorem size_list (a : ByteArray) : a.data.toList.length = a.size := Array.length_toList
theorem front_ok (a b : ByteArray) (ha : a.size ≤ 281474976710656) {m K} (hk : K (.sc (.int false .i64 (front a b))) m) : TripleF Try.prog 26 [.sc (.str a), .sc (.str b)] m K := by
  refine pure_of_awp (R := fun r' => r' = .sc (.int false .i64 (front a b))) E0ok Try.func26 rfl (by kernel_rfl) rfl ?_ (fun r h => h ▸ hk)
  refine LoopF.inv Nat (fun k => k ≤ a.size ∧ k ≤ b.size ∧ front a b = k + frontFrom (a.data.toList.drop k) (b.data.toList.drop k)) (fun k => [(5, .sc (.int false .i64 (k : Int)))]) (fun k => a.size - k) (fun _ => []) (fun _ => Nat.le_refl _) 0 []
    ⟨Nat.zero_le _, Nat.zero_le _, by simp [front]⟩ ⟨⟨⟨rfl, rfl⟩, trivial⟩, trivial, rfl⟩ ?_
  rintro k ⟨h1, h2, h3⟩
  have e1 := size_list a
  have e2 := size_list b
  refine Need.mk (by kernel_rfl) ?_
  refine Br.mk (fun c1 => ?_) (fun c1 => ?_)
  · have c1 : (k : Int) < a.size := of_decide_eq_true c1
    refine Br.mk (fun c2 => ?_) (fun c2 => ?_)
    · have c2 : (k : Int) < b.size := of_decide_eq_true c2
      have d1 := drop_cons (l := a.data.toList) (k := k) (by omega)
      have d2 := drop_cons (l := b.data.toList) (k := k) (by omega)
      refine Need.mk ⟨by omega, by omega⟩ ?_
      refine Need.mk ⟨by omega, by omega⟩ ?_
      refine Br.mk (fun c3 => ?_) (fun c3 => ?_)
      · have c3 : byteAt a k = byteAt b k := by simpa using c3
        have he : a.data.toList.getD k 0 = b.data.toList.getD k 0 := by
          simp only [byteAt] at c3
          exact UInt8.toNat_inj.1 (by omega)
        refine ⟨k + 1, [], ⟨by omega, by omega, ?_⟩, by omega, ⟨⟨⟨rfl, ?_⟩, trivial⟩, trivial, rfl⟩, rfl⟩
        · rw [h3, d1, d2, frontFrom, if_pos he]; omega
        · show AVal.sc (.int false .i64 (IntKind.i64.wrap ((k : Int) + 1))) = .sc (.int false .i64 ((k + 1 : Nat) : Int))
          rw [wrapI (by omega) (by omega)]; rfl
      · have c3 : ¬ byteAt a k = byteAt b k := by simpa using c3
        have he : ¬ a.data.toList.getD k 0 = b.data.toList.getD k 0 := by
          intro e
          exact c3 (by simp only [byteAt, e])
        conv => whnf
        rw [h3, d1, d2, frontFrom, if_neg he]; rfl
    · have c2 : ¬ (k : Int) < b.size := of_decide_eq_false c2
      have d2 : b.data.toList.drop k = [] := List.drop_eq_nil_of_le (by omega)
      conv => whnf
      rw [h3, d2]
      cases a.data.toList.drop k <;> rfl
  · have c1 : ¬ (k : Int) < a.size := of_decide_eq_false c1
    have d1 : a.data.toList.drop k = [] := List.drop_eq_nil_of_le (by omega)
    conv => whnf
    rw [h3, d1]
    rfl
end Go.Proofs.Ytljokmmgkecjbaa

namespace Go.AM
open Go
theorem TripleF.of_still {P : Program} {f : FuncId} {fn : Func} {c : Code} (hf : P.funcs[f]? = some fn) (hb : fn.body = some c) (hn : (fn.name == "runtime.NumGoroutine") = false)
    {args : List AVal} {r : AVal} (h : ∀ env vs, RepL env args vs → ∃ v, Rep env r v ∧ ∀ w, Calls P f ⟨vs⟩ w fun e w' => e = .returned v ∧ w' = w) {m K} (hk : K r m) : TripleF P f args m K := by
  intro w0 F env vs w hM hr
  obtain ⟨v, hv, hc⟩ := h env vs hr
  refine ⟨callFunc_run hf hb hn _, (hc w).mono ?_⟩
  rintro e w' ⟨rfl, rfl⟩
  exact ⟨r, m, env, v, rfl, hk, Ext.refl _, hv, hM⟩
end Go.AM
namespace Go.Proofs.Ytljokmmgkecjbaa
open Go Go.AM
def cmpS (a b : ByteArray) : Int := Lib.compareBytes a.data.toList b.data.toList
set_option maxHeartbeats 1000000 in
theorem compareString_calls (a b : ByteArray) (w : World) :
    Calls Try.prog 118 #[.string a, .string b] w fun e w' => e = .returned (.int .i64 (cmpS a b)) ∧ w' = w := by
  go_enter Try.func118, Try.ntmps118
  go_wp2
  rw [run_callFunc_extern Try.func141 (by kernel_rfl) (by kernel_rfl) (by kernel_rfl) (e := Extern.BytealgCompare.compare) (by kernel_rfl), Lib.run_compareString]
  simp only [Result.andThen]
  rw [Oper.upon_value]
  go_wp2
  go_ret
  exact ⟨rfl, rfl⟩
theorem compareString_ok (a b : ByteArray) {m K} (hk : K (.sc (.int false .i64 (cmpS a b))) m) : TripleF Try.prog 118 [.sc (.str a), .sc (.str b)] m K := by
  refine TripleF.of_still Try.func118 rfl (by kernel_rfl) (fun env vs hr => ?_) hk
  obtain ⟨v, vs', rfl, h1, h2⟩ := hr
  obtain ⟨v2, vs'', rfl, h3, h4⟩ := h2
  cases h4; cases h1; cases h3
  exact ⟨_, rfl, fun w => compareString_calls a b w⟩
end Go.Proofs.Ytljokmmgkecjbaa

namespace Go.Proofs.Ytljokmmgkecjbaa
open Go Go.AM

noncomputable def kindsT (e : TypeId) : Option Kind := match e with
  | 3 => some (intK 3 .i64)
  | 5 => some (intK 5 .u8)
  | 9 => some (strK 9)
  | _ => none
noncomputable def qt2 : QTab := fun f args => match f, args with
  | 83, [.sc (.int _ .i64 a), .sc (.int _ .i64 b), .sc (.int _ .i64 c)] => some (none, .sc (.bool (decide (b ≤ a) && decide (a ≤ c))))
  | 86, [.sc (.int _ .i64 a), .sc (.int _ .i64 b), .sc (.int _ .i64 c)] => some (none, .sc (.bool (decide (b ≤ a) && decide (a ≤ c))))
  | 26, [.sc (.str a), .sc (.str b)] => some (some (a.size ≤ 281474976710656), .sc (.int false .i64 (front a b)))
  | 32, [.agg [.str lo, .str hi, .bool e], .sc (.str k)] => some (none, .sc (.bool (inB ⟨lo, hi, e⟩ k)))
  | 39, [.agg [.str lo, .str hi, .bool e], .sc (.str k)] => some (none, .sc (.bool (inB ⟨lo, hi, e⟩ k)))
  | 40, [.agg [.str lo, .str hi, .bool e]] => some (none, .sc (.bool (emptyB ⟨lo, hi, e⟩)))
  | 34, [.agg [.str lo, .str hi, .bool e], .agg [.str lo2, .str hi2, .bool e2]] => some (none, (meetR ⟨lo, hi, e⟩ ⟨lo2, hi2, e2⟩).A)
  | 41, [.agg [.str lo, .str hi, .bool e], .agg [.str lo2, .str hi2, .bool e2]] => some (none, (meetR ⟨lo, hi, e⟩ ⟨lo2, hi2, e2⟩).A)
  | 29, [.sc (.str s)] => some (some (s.size + 1 ≤ 9223372036854775807), .sc (.str (s ++ ⟨#[0]⟩)))
  | 45, [.sc (.str s)] => some (none, Rng.A ⟨s, s, false⟩)
  | 46, [.sc (.str s)] => some (none, Rng.A ⟨s, strE, true⟩)
  | 118, [.sc (.str a), .sc (.str b)] => some (none, .sc (.int false .i64 (cmpS a b)))
  | _, _ => none
theorem qt2ok : qt2.Ok Try.prog := by
  intro f args p r h hp m k hk
  unfold qt2 at h
  split at h <;> cases h
  · exact within_ok _ _ _ hk
  · exact between_ok _ _ _ hk
  · exact front_ok _ _ (hp _ rfl) hk
  · exact in_ok ⟨_, _, _⟩ _ hk
  · exact rin_ok ⟨_, _, _⟩ _ hk
  · exact rempty_ok ⟨_, _, _⟩ hk
  · exact meet_ok ⟨_, _, _⟩ ⟨_, _, _⟩ hk
  · exact rmeet_ok ⟨_, _, _⟩ ⟨_, _, _⟩ hk
  · exact succ_ok _ (hp _ rfl) hk
  · exact point_ok _ hk
  · exact from_ok _ hk
  · exact compareString_ok _ _ hk
noncomputable def E2 : Eng := mkEng Try.prog kindsT noEq qt2 noSpec noQ
theorem E2ok : E2.Ok := mkEng_ok mixedT qt2ok (fun _ _ _ _ h => h.elim) (fun _ _ _ _ _ h => by cases h) (fun _ _ _ _ h => by cases h)

theorem compare_ok (a b : ByteArray) {m K} (hk : K (.sc (.int false .i64 (cmpS a b))) m) : TripleF Try.prog 87 [.sc (.str a), .sc (.str b)] m K := by
  refine pure_of_awp (R := fun r' => r' = .sc (.int false .i64 (cmpS a b))) E2ok Try.func87 rfl (by kernel_rfl) rfl ?_ (fun r h => h ▸ hk)
  conv => whnf
theorem sEq_or (a b : ByteArray) : (sLess a b || sEq a b) = !sLess b a := by
  rcases sLess_tri a b with h | rfl | h
  · cases k : sLess b a with
    | false => simp [h]
    | true => have := sLess_trans h k; rw [sLess_irrefl] at this; cases this
  · simp [sLess_irrefl, sEq_iff.2 rfl]
  · have h1 : sLess a b = false := by
      cases k : sLess a b with
      | false => rfl
      | true => have := sLess_trans h k; rw [sLess_irrefl] at this; cases this
    have h2 : sEq a b = false := by
      cases k : sEq a b with
      | false => rfl
      | true => rw [sEq_iff.1 k, sLess_irrefl] at h; cases h
    simp [h, h1, h2]
theorem inB_eq (r : Rng) (k : ByteArray) : inB r k = (!sLess k r.lo && (r.e || !sLess r.hi k)) := by
  unfold inB; rw [sEq_or]
theorem empty_eq (r : Rng) : (!inB r r.lo) = emptyB r := by
  rw [inB_eq, sLess_irrefl]; unfold emptyB; cases r.e <;> simp
theorem empty_ok (r : Rng) {m K} (hk : K (.sc (.bool (emptyB r))) m) : TripleF Try.prog 33 [r.A] m K := by
  obtain ⟨lo, hi, e⟩ := r
  refine pure_of_awp (R := fun r' => r' = .sc (.bool (emptyB ⟨lo, hi, e⟩))) E2ok Try.func33 rfl (by kernel_rfl) rfl ?_ (fun r h => h ▸ hk)
  conv => whnf
  exact congrArg (fun b => AVal.sc (.bool b)) (empty_eq ⟨lo, hi, e⟩)

def coversB (a b : Rng) : Bool := emptyB b || (!sLess b.lo a.lo && (a.e || (!b.e && !sLess a.hi b.hi)))

theorem u8w (x : Int) : IntKind.u8.wrap x = x % 256 := by
  simp [IntKind.wrap, IntKind.signed, IntKind.bits]
def bytes8 (n : Int) : List Int := [n / 72057594037927936 % 256, n / 281474976710656 % 256, n / 1099511627776 % 256, n / 4294967296 % 256, n / 16777216 % 256, n / 65536 % 256, n / 256 % 256, n / 1 % 256]
def slotS (n : Int) : ByteArray := if 0 ≤ n ∧ n ≤ 1099511627776 then strOfNums (bytes8 n) else strE
theorem bytes8_eq (n : Int) : strOfNums [IntKind.u8.wrap (n.fdiv 72057594037927936), IntKind.u8.wrap (n.fdiv 281474976710656), IntKind.u8.wrap (n.fdiv 1099511627776), IntKind.u8.wrap (n.fdiv 4294967296), IntKind.u8.wrap (n.fdiv 16777216), IntKind.u8.wrap (n.fdiv 65536), IntKind.u8.wrap (n.fdiv 256), IntKind.u8.wrap (n.fdiv 1)] = strOfNums (bytes8 n) := by
  unfold bytes8
  simp only [u8w, Int.fdiv_eq_ediv_of_nonneg _ (show (0 : Int) ≤ 72057594037927936 by decide), Int.fdiv_eq_ediv_of_nonneg _ (show (0 : Int) ≤ 281474976710656 by decide), Int.fdiv_eq_ediv_of_nonneg _ (show (0 : Int) ≤ 1099511627776 by decide),
    Int.fdiv_eq_ediv_of_nonneg _ (show (0 : Int) ≤ 4294967296 by decide), Int.fdiv_eq_ediv_of_nonneg _ (show (0 : Int) ≤ 16777216 by decide), Int.fdiv_eq_ediv_of_nonneg _ (show (0 : Int) ≤ 65536 by decide), Int.fdiv_eq_ediv_of_nonneg _ (show (0 : Int) ≤ 256 by decide), Int.fdiv_eq_ediv_of_nonneg _ (show (0 : Int) ≤ 1 by decide)]
theorem slot_ok (n : Int) {m K} (hk : K (.sc (.str (slotS n))) m) : TripleF Try.prog 23 [.sc (.int false .i64 n)] m K := by
  refine pure_of_awp (R := fun r' => r' = .sc (.str (slotS n))) E2ok Try.func23 rfl (by kernel_rfl) rfl ?_ (fun r h => h ▸ hk)
  refine Br.mk (fun c1 => ?_) (fun c1 => ?_)
  · conv => whnf
    have : ¬ (0 ≤ n ∧ n ≤ 1099511627776) := by
      simp at c1; omega
    rw [slotS, if_neg this]; rfl
  · refine LoopF.unroll 9 ?_
    conv => whnf
    have : 0 ≤ n ∧ n ≤ 1099511627776 := by simpa using c1
    rw [slotS, if_pos this]
    exact congrArg (fun s => AVal.sc (.str s)) (bytes8_eq n)
theorem frontFrom_le : ∀ a b : List UInt8, frontFrom a b ≤ a.length ∧ frontFrom a b ≤ b.length
  | [], [] => by simp [frontFrom]
  | [], _ :: _ => by simp [frontFrom]
  | _ :: _, [] => by simp [frontFrom]
  | a :: x, b :: y => by
    have := frontFrom_le x y
    unfold frontFrom
    split <;> simp <;> omega
theorem frontFrom_lt : ∀ {a b : List UInt8}, Op.bytesLess a b = true → frontFrom a b + 1 ≤ b.length
  | [], [], h => by simp [Op.bytesLess] at h
  | [], _ :: _, h => by simp [frontFrom]
  | _ :: _, [], h => by simp [Op.bytesLess] at h
  | a :: x, b :: y, h => by
    unfold frontFrom
    split
    · rename_i e
      subst e
      have : Op.bytesLess x y = true := by simpa [Op.bytesLess, UInt8.lt_irrefl] using h
      have := frontFrom_lt this
      simp; omega
    · simp
theorem front_le (a b : ByteArray) : front a b ≤ a.size ∧ front a b ≤ b.size := by
  have := frontFrom_le a.data.toList b.data.toList
  rw [size_list, size_list] at this; exact this
theorem front_lt {a b : ByteArray} (h : sLess a b = true) : front a b + 1 ≤ b.size := by
  unfold sLess at h
  rw [Lib.toList_data, Lib.toList_data] at h
  have := frontFrom_lt h
  rw [size_list] at this; exact this
/-- the shortest beginning of b that is greater than a -/
def sepS (a b : ByteArray) : ByteArray := if sLess a b = true then b.extract 0 (front a b + 1) else strE
theorem sep_ok (a b : ByteArray) (ha : a.size ≤ 281474976710656) {m K} (hk : K (.sc (.str (sepS a b))) m) : TripleF Try.prog 25 [.sc (.str a), .sc (.str b)] m K := by
  refine pure_of_awp (R := fun r' => r' = .sc (.str (sepS a b))) E2ok Try.func25 rfl (by kernel_rfl) rfl ?_ (fun r h => h ▸ hk)
  refine Br.mk (fun c1 => ?_) (fun c1 => ?_)
  · conv => whnf
    have c1 : (!sLess a b) = true := c1
    simp at c1
    rw [sepS, if_neg (by simp [c1])]; rfl
  · have c1 : (!sLess a b) = false := c1
    simp at c1
    have h1 := front_lt c1
    have h2 := (front_le a b).1
    refine Need.mk ha ?_
    have w1 : IntKind.i64.wrap ((front a b : Int) + 1) = front a b + 1 := wrapI (by omega) (by omega)
    refine Need.mk ?_ ?_
    · show 0 ≤ IntKind.i64.wrap ((front a b : Int) + 1) ∧ IntKind.i64.wrap ((front a b : Int) + 1) ≤ b.size
      omega
    refine Need.mk ?_ ?_
    · show 0 ≤ (0 : Int) ∧ 0 ≤ IntKind.i64.wrap ((front a b : Int) + 1)
      omega
    conv => whnf
    show AVal.sc (.str (b.extract 0 (IntKind.i64.wrap ((front a b : Int) + 1)).toNat)) = _
    rw [w1, sepS, if_pos c1]; rfl
theorem front_less : ∀ (a b : List UInt8) (k : Nat), Op.bytesLess a (b.take k) = (Op.bytesLess a b && decide (frontFrom a b < k))
  | [], [], k => by simp [Op.bytesLess]
  | [], b :: y, 0 => by simp [Op.bytesLess]
  | [], b :: y, k + 1 => by simp [Op.bytesLess, frontFrom]
  | _ :: _, [], k => by simp [Op.bytesLess]
  | a :: x, b :: y, 0 => by simp [Op.bytesLess]
  | a :: x, b :: y, k + 1 => by
    have ih := front_less x y k
    rw [List.take_succ_cons]
    unfold Op.bytesLess frontFrom
    by_cases e : a = b
    · subst e
      simp [ih, UInt8.lt_irrefl]
    · simp [e, show (a == b) = false from by simpa using e]
theorem sLess_take (a b : ByteArray) (k : Nat) : sLess a (b.extract 0 k) = (sLess a b && decide (front a b < k)) := by
  unfold sLess
  rw [Lib.toList_data, Lib.toList_data, Lib.toList_data, Lib.extract_from_zero]
  exact front_less _ _ _
theorem sep_first (a b : ByteArray) (k : Nat) (hk : k ≤ b.size) (h : sLess a (b.extract 0 k) = true) (hn : ∀ j, j < k → sLess a (b.extract 0 j) = false) : b.extract 0 k = sepS a b := by
  rw [sLess_take, Bool.and_eq_true, decide_eq_true_iff] at h
  have : k = front a b + 1 := by
    apply Classical.byContradiction
    intro hne
    have := hn (front a b + 1) (by omega)
    rw [sLess_take, h.1] at this
    simp at this
  rw [sepS, if_pos h.1, this]
theorem sep_none (a b : ByteArray) (hn : ∀ j, j < b.size + 1 → sLess a (b.extract 0 j) = false) : sepS a b = strE := by
  unfold sepS
  split
  · rename_i h
    have h1 := front_lt h
    have := hn (front a b + 1) (by omega)
    rw [sLess_take, h] at this
    simp at this
  · rfl
theorem rsep_ok (a b : ByteArray) (ha : a.size ≤ 281474976710656) (hb : b.size ≤ 281474976710656) {m K} (hk : K (.sc (.str (sepS a b))) m) : TripleF Try.prog 27 [.sc (.str a), .sc (.str b)] m K := by
  refine pure_of_awp (R := fun r' => r' = .sc (.str (sepS a b))) E2ok Try.func27 rfl (by kernel_rfl) rfl ?_ (fun r h => h ▸ hk)
  refine LoopF.inv Nat (fun k => k ≤ b.size + 1 ∧ ∀ j, j < k → sLess a (b.extract 0 j) = false) (fun k => [(5, .sc (.int false .i64 (k : Int)))]) (fun k => b.size + 1 - k) (fun _ => []) (fun _ => Nat.le_refl _) 0 []
    ⟨Nat.zero_le _, fun j h => by omega⟩ ⟨⟨⟨rfl, rfl⟩, trivial⟩, trivial, rfl⟩ ?_
  rintro k ⟨h1, h2⟩
  refine Br.mk (fun c1 => ?_) (fun c1 => ?_)
  · have c1 : (k : Int) ≤ b.size := of_decide_eq_true c1
    refine Need.mk ?_ ?_
    · show 0 ≤ (k : Int) ∧ (k : Int) ≤ b.size
      omega
    refine Need.mk ?_ ?_
    · show 0 ≤ (0 : Int) ∧ 0 ≤ (k : Int)
      omega
    refine Br.mk (fun c2 => ?_) (fun c2 => ?_)
    · have c2 : (!(sLess (b.extract 0 k) a || sEq (b.extract 0 k) a)) = true := c2
      rw [sEq_or, Bool.not_not] at c2
      refine Need.mk ?_ ?_
      · show 0 ≤ (k : Int) ∧ (k : Int) ≤ b.size
        omega
      refine Need.mk ?_ ?_
      · show 0 ≤ (0 : Int) ∧ 0 ≤ (k : Int)
        omega
      conv => whnf
      show AVal.sc (.str (b.extract 0 k)) = _
      rw [sep_first a b k (by omega) c2 h2]
    · have c2 : (!(sLess (b.extract 0 k) a || sEq (b.extract 0 k) a)) = false := c2
      rw [sEq_or, Bool.not_not] at c2
      refine ⟨k + 1, [], ⟨by omega, fun j hj => ?_⟩, by omega, ⟨⟨⟨rfl, ?_⟩, trivial⟩, trivial, rfl⟩, rfl⟩
      · by_cases h : j < k
        · exact h2 j h
        · rw [show j = k by omega]; exact c2
      · show AVal.sc (.int false .i64 (IntKind.i64.wrap ((k : Int) + 1))) = .sc (.int false .i64 ((k + 1 : Nat) : Int))
        rw [wrapI (by omega) (by omega)]; rfl
  · have c1 : ¬ (k : Int) ≤ b.size := of_decide_eq_false c1
    conv => whnf
    rw [sep_none a b (fun j hj => h2 j (by omega))]; rfl
/-- the number that bytes are, the first the greatest -/
def beN (l : List UInt8) : Nat := l.foldl (fun n c => n * 256 + c.toNat) 0
theorem beN_snoc (l : List UInt8) (c : UInt8) : beN (l ++ [c]) = beN l * 256 + c.toNat := by simp [beN]
theorem beN_lt (l : List UInt8) : beN l < 256 ^ l.length := by
  rw [← List.reverse_reverse l]
  induction l.reverse with
  | nil => simp [beN]
  | cons c l ih =>
    rw [List.reverse_cons, beN_snoc, List.length_append, List.length_singleton, Nat.pow_succ]
    have := c.toNat_lt
    simp at this
    omega
theorem beN_take {l : List UInt8} {k : Nat} (h : k < l.length) : beN (l.take (k + 1)) = beN (l.take k) * 256 + (l.getD k 0).toNat := by
  rw [List.take_succ_eq_append_getElem h, beN_snoc, List.getD_eq_getElem?_getD, List.getElem?_eq_getElem h]; rfl
theorem beN_take_lt (l : List UInt8) (k : Nat) : beN (l.take k) < 256 ^ k :=
  Nat.lt_of_lt_of_le (beN_lt _) (Nat.pow_le_pow_right (by decide) (by simp; omega))
theorem beN_big (l : List UInt8) (h : l.length = 8) (h2 : 0 < (l.getD 0 0).toNat ∨ 0 < (l.getD 1 0).toNat) : 1099511627776 < beN l := by
  match l, h with
  | [a, b, c, d, e, f, g, i], _ =>
    simp only [List.getD_cons_zero, List.getD_cons_succ] at h2
    simp only [beN, List.foldl_cons, List.foldl_nil]
    omega
theorem beN_small (l : List UInt8) (h : l.length = 8) (h0 : ¬ 0 < (l.getD 0 0).toNat) (h1 : ¬ 0 < (l.getD 1 0).toNat) (k : Nat) (hk : k < 8) : beN (l.take k) < 1099511627776 := by
  match l, h with
  | [a, b, c, d, e, f, g, i], _ =>
    simp only [List.getD_cons_zero, List.getD_cons_succ] at h0 h1
    have := UInt8.toNat_lt c
    have := UInt8.toNat_lt d
    have := UInt8.toNat_lt e
    have := UInt8.toNat_lt f
    have := UInt8.toNat_lt g
    match k, hk with
    | 0, _ | 1, _ | 2, _ | 3, _ | 4, _ | 5, _ | 6, _ | 7, _ =>
      simp only [beN, List.take_zero, List.take_succ_cons, List.foldl_cons, List.foldl_nil]
      omega
theorem shl_or (n c : Nat) (hn : n < 72057594037927936) (hc : c < 256) :
    IntKind.u64.wrap ((BitVec.ofInt 64 (IntKind.u64.wrap ((n : Int) * 256)) ||| BitVec.ofInt 64 (c : Int)).toNat : Nat) = ((n * 256 + c : Nat) : Int) := by
  have w : IntKind.u64.wrap ((n : Int) * 256) = ((n * 256 : Nat) : Int) := by
    simp [IntKind.wrap, IntKind.signed, IntKind.bits]; omega
  rw [w, BitVec.toNat_or, BitVec.ofInt_natCast, BitVec.ofInt_natCast, BitVec.toNat_ofNat, BitVec.toNat_ofNat, Nat.mod_eq_of_lt (by omega), Nat.mod_eq_of_lt (by omega)]
  have : (n * 256) ||| c = n * 256 + c := by
    have := Nat.two_pow_add_eq_or_of_lt (i := 8) (b := c) (by omega) n
    rw [Nat.mul_comm] at this
    exact this.symm
  rw [this]
  simp [IntKind.wrap, IntKind.signed, IntKind.bits]; omega
def numS (s : ByteArray) : Int × Bool := if s.size = 8 ∧ beN s.data.toList ≤ 1099511627776 then (beN s.data.toList, true) else (0, false)
def numA (s : ByteArray) : AVal := .tup [(false, [.int false .i64 (numS s).1]), (false, [.bool (numS s).2])]
theorem number_ok (s : ByteArray) {m K} (hk : K (numA s) m) : TripleF Try.prog 21 [.sc (.str s)] m K := by
  refine pure_of_awp (R := fun r' => r' = numA s) E2ok Try.func21 rfl (by kernel_rfl) rfl ?_ (fun r h => h ▸ hk)
  refine Br.mk (fun c1 => ?_) (fun c1 => ?_)
  · conv => whnf
    simp at c1
    rw [numA, numS, if_neg (by omega)]; rfl
  · have c1 : s.size = 8 := by simp at c1; omega
    have hl : s.data.toList.length = 8 := (size_list s).trans c1
    refine ⟨Know.mk fun hz => ?_, by omega⟩
    clear hz
    conv => whnf
    refine Know.mk fun hz => ?_
    clear hz
    conv => whnf
    refine LoopF.inv Nat (fun k => k ≤ 8) (fun k => [(13, .sc (.int false .i64 (k : Int))), (4, .sc (.int false .u64 (beN (s.data.toList.take k) : Nat)))]) (fun k => 8 - k) (fun _ => [AM.Item.rob (byteK 5) s.data.toList]) (fun _ => Nat.le_refl _) 0 []
      (Nat.zero_le _) ⟨⟨⟨rfl, rfl⟩, ⟨rfl, rfl⟩, trivial⟩, ⟨rfl, trivial⟩, rfl⟩ ?_
    intro k h1
    conv => whnf
    refine Br.mk (fun c2 => ?_) (fun c2 => ?_)
    · have c2 : (k : Int) < (s.data.toList.length : Nat) := of_decide_eq_true c2
      have ht := beN_take (l := s.data.toList) (k := k) (by omega)
      have hlt := beN_take_lt s.data.toList k
      refine Need.mk (show 0 ≤ (k : Int) ∧ (k : Int) < (s.data.toList.length : Nat) from ⟨by omega, by omega⟩) ?_
      refine ⟨k + 1, [], by omega, by omega, ⟨⟨⟨rfl, ?_⟩, ⟨rfl, ?_⟩, trivial⟩, ⟨rfl, trivial⟩, rfl⟩, rfl⟩
      · show AVal.sc (.int false .i64 (IntKind.i64.wrap ((k : Int) + 1))) = .sc (.int false .i64 ((k + 1 : Nat) : Int))
        rw [wrapI (by omega) (by omega)]; rfl
      · have hp : 256 ^ k ≤ 256 ^ 7 := Nat.pow_le_pow_right (by decide) (by omega)
        have hb := UInt8.toNat_lt (s.data.toList.getD k 0)
        conv => lhs; whnf
        show AVal.sc (.int false .u64 (IntKind.u64.wrap ((BitVec.ofInt 64 (IntKind.u64.wrap ((beN (s.data.toList.take k) : Int) * 2 ^ (min (Int.toNat 8) 64))) ||| BitVec.ofInt 64 (IntKind.u64.wrap ((nth s.data.toList k 0).toNat : Int))).toNat : Nat))) = .sc (.int false .u64 ((beN (s.data.toList.take (k + 1)) : Nat) : Int))
        rw [nth_eq]
        rw [show IntKind.u64.wrap ((s.data.toList.getD k 0).toNat : Int) = ((s.data.toList.getD k 0).toNat : Int) from by simp only [IntKind.wrap, IntKind.signed, IntKind.bits]; simp only [Bool.false_and, Bool.false_eq_true, if_false]; omega]
        rw [show ((2 : Int) ^ (min (Int.toNat 8) 64)) = 256 from rfl, shl_or _ _ (by omega) (by omega), ht]
    · have c2 : ¬ (k : Int) < (s.data.toList.length : Nat) := of_decide_eq_false c2
      have hk8 : k = 8 := by omega
      subst hk8
      have hall : s.data.toList.take 8 = s.data.toList := List.take_of_length_le (by omega)
      refine Br.mk (fun c3 => ?_) (fun c3 => ?_)
      · have c3 := of_decide_eq_true c3
        conv => whnf
        rw [hall] at c3
        rw [numA, numS, if_neg (by omega)]; rfl
      · have c3 := of_decide_eq_false c3
        conv => whnf
        rw [hall] at c3 ⊢
        rw [numA, numS, if_pos (by omega), wrapI (by omega) (by omega)]; rfl
theorem rslot_ok (n : Int) {m K} (hk : K (.sc (.str (slotS n))) m) : TripleF Try.prog 24 [.sc (.int false .i64 n)] m K := by
  refine pure_of_awp (R := fun r' => r' = .sc (.str (slotS n))) E2ok Try.func24 rfl (by kernel_rfl) rfl ?_ (fun r h => h ▸ hk)
  refine Br.mk (fun c1 => ?_) (fun c1 => ?_)
  · conv => whnf
    have c1 := of_decide_eq_true c1
    rw [slotS, if_neg (by omega)]; rfl
  · have c1 := of_decide_eq_false c1
    refine Br.mk (fun c2 => ?_) (fun c2 => ?_)
    · conv => whnf
      have c2 := of_decide_eq_true c2
      rw [slotS, if_neg (by omega)]; rfl
    · have c2 := of_decide_eq_false c2
      refine LoopF.unroll 9 ?_
      iterate 8
        conv => whnf
        refine Cast.mk _ _ ?_
        refine Need.mk (Nat.le_of_ble_eq_true (by kernel_rfl)) ?_
      conv => whnf
      rw [slotS, if_pos (by omega)]
      have e1 : ∀ x : Int, 0 ≤ x → x ≤ 1099511627776 → IntKind.i64.wrap (x.tdiv 256) = x / 256 := fun x h1 h2 => by
        rw [Int.tdiv_eq_ediv_of_nonneg h1, wrapI (by omega) (by omega)]
      have e2 : ∀ x : Int, 0 ≤ x → IntKind.u8.wrap (x.tmod 256) = x % 256 := fun x h1 => by
        rw [Int.tmod_eq_emod_of_nonneg h1, u8w]; omega
      refine congrArg (fun s => AVal.sc (.str (strOfNums s))) ?_
      rw [e1 n (by omega) (by omega), e1 (n / 256) (by omega) (by omega), e1 (n / 256 / 256) (by omega) (by omega), e1 (n / 256 / 256 / 256) (by omega) (by omega), e1 (n / 256 / 256 / 256 / 256) (by omega) (by omega),
        e1 (n / 256 / 256 / 256 / 256 / 256) (by omega) (by omega), e1 (n / 256 / 256 / 256 / 256 / 256 / 256) (by omega) (by omega)]
      rw [e2 n (by omega), e2 (n / 256) (by omega), e2 (n / 256 / 256) (by omega), e2 (n / 256 / 256 / 256) (by omega), e2 (n / 256 / 256 / 256 / 256) (by omega), e2 (n / 256 / 256 / 256 / 256 / 256) (by omega),
        e2 (n / 256 / 256 / 256 / 256 / 256 / 256) (by omega), e2 (n / 256 / 256 / 256 / 256 / 256 / 256 / 256) (by omega)]
      unfold bytes8
      refine List.cons_eq_cons.2 ⟨by omega, List.cons_eq_cons.2 ⟨by omega, List.cons_eq_cons.2 ⟨by omega, List.cons_eq_cons.2 ⟨by omega, List.cons_eq_cons.2 ⟨by omega, List.cons_eq_cons.2 ⟨by omega, List.cons_eq_cons.2 ⟨by omega, List.cons_eq_cons.2 ⟨by omega, rfl⟩⟩⟩⟩⟩⟩⟩⟩
theorem rnumber_ok (s : ByteArray) {m K} (hk : K (numA s) m) : TripleF Try.prog 22 [.sc (.str s)] m K := by
  refine pure_of_awp (R := fun r' => r' = numA s) E2ok Try.func22 rfl (by kernel_rfl) rfl ?_ (fun r h => h ▸ hk)
  refine Br.mk (fun c1 => ?_) (fun c1 => ?_)
  · conv => whnf
    simp at c1
    rw [numA, numS, if_neg (by omega)]; rfl
  · have c1 : s.size = 8 := by simp at c1; omega
    have hl : s.data.toList.length = 8 := (size_list s).trans c1
    refine Need.mk (by omega) ?_
    refine Br.mk (fun c2 => ?_) (fun c2 => ?_)
    · have c2 := of_decide_eq_true c2
      have hbig := beN_big s.data.toList hl (by
        have : (0 : Int) < (s.data.toList.getD 0 0).toNat := c2
        omega)
      conv => whnf
      rw [numA, numS, if_neg (by omega)]; rfl
    · have d2 : ¬ (0 : Int) < (s.data.toList.getD 0 0).toNat := of_decide_eq_false c2
      refine Need.mk (by omega) ?_
      refine Br.mk (fun c3 => ?_) (fun c3 => ?_)
      · have c3 := of_decide_eq_true c3
        have hbig := beN_big s.data.toList hl (by
          have : (0 : Int) < (s.data.toList.getD 1 0).toNat := c3
          omega)
        conv => whnf
        rw [numA, numS, if_neg (by omega)]; rfl
      · have d3 : ¬ (0 : Int) < (s.data.toList.getD 1 0).toNat := of_decide_eq_false c3
        conv => whnf
        refine LoopF.inv Nat (fun k => k ≤ 8) (fun k => [(5, .sc (.int false .i64 (k : Int))), (4, .sc (.int false .i64 (beN (s.data.toList.take k) : Nat)))]) (fun k => 8 - k) (fun _ => []) (fun _ => Nat.le_refl _) 0 []
          (Nat.zero_le _) ⟨⟨⟨rfl, rfl⟩, ⟨rfl, rfl⟩, trivial⟩, trivial, rfl⟩ ?_
        intro k h1
        conv => whnf
        refine Br.mk (fun c2 => ?_) (fun c2 => ?_)
        · have c2 := of_decide_eq_true c2
          have ht := beN_take (l := s.data.toList) (k := k) (by omega)
          have hlt := beN_take_lt s.data.toList k
          refine Need.mk ⟨by omega, by omega⟩ ?_
          refine ⟨k + 1, [], by omega, by omega, ⟨⟨⟨rfl, ?_⟩, ⟨rfl, ?_⟩, trivial⟩, trivial, rfl⟩, rfl⟩
          · show AVal.sc (.int false .i64 (IntKind.i64.wrap ((k : Int) + 1))) = .sc (.int false .i64 ((k + 1 : Nat) : Int))
            rw [wrapI (by omega) (by omega)]; rfl
          · have hp := beN_small s.data.toList hl (by omega) (by omega) k (by omega)
            have hb := UInt8.toNat_lt (s.data.toList.getD k 0)
            show AVal.sc (.int false .i64 (IntKind.i64.wrap (IntKind.i64.wrap ((beN (s.data.toList.take k) : Int) * 256) + IntKind.i64.wrap ((s.data.toList.getD k 0).toNat : Int)))) = .sc (.int false .i64 ((beN (s.data.toList.take (k + 1)) : Nat) : Int))
            rw [wrapI (n := ((s.data.toList.getD k 0).toNat : Int)) (by omega) (by omega), wrapI (n := (beN (s.data.toList.take k) : Int) * 256) (by omega) (by omega), ht, wrapI (by omega) (by omega)]
            rfl
        · have c2 := of_decide_eq_false c2
          have hk8 : k = 8 := by omega
          subst hk8
          have hall : s.data.toList.take 8 = s.data.toList := List.take_of_length_le (by omega)
          refine Br.mk (fun c3 => ?_) (fun c3 => ?_)
          · have c3 := of_decide_eq_true c3
            conv => whnf
            rw [hall] at c3
            rw [numA, numS, if_neg (by omega)]; rfl
          · have c3 := of_decide_eq_false c3
            conv => whnf
            rw [hall] at c3 ⊢
            rw [numA, numS, if_pos (by omega)]; rfl
end Go.Proofs.Ytljokmmgkecjbaa

namespace Go.Proofs.Ytljokmmgkecjbaa
open Go Go.AM

theorem zeros_base (xs : List Int) : TripleF Try.prog 85 [.sc (.h 0)] [.ro (intK 3 .i64) xs] (fun r _ => r = .sc (.bool (xs.all (· == 0))) ∧ r.below 0 = true) := by
  refine base_of_awp (R := fun r => r = .sc (.bool (xs.all (· == 0)))) E2ok Try.func85 rfl (by kernel_rfl) ?_
  refine Know.mk fun hlen => ?_
  have hlen : xs.length ≤ 9223372036854775807 := hlen
  conv => whnf
  refine LoopF.inv Nat (fun k => k ≤ xs.length ∧ (xs.take k).all (· == 0) = true) (fun k => [(7, .sc (.int false .i64 (k : Int)))]) (fun k => xs.length - k) (fun _ => [AM.Item.ro (intK 3 .i64) xs]) (fun _ => Nat.le_refl _) 0 []
    ⟨Nat.zero_le _, rfl⟩ ⟨⟨⟨rfl, rfl⟩, trivial⟩, ⟨rfl, trivial⟩, rfl⟩ ?_
  rintro k ⟨h1, h2⟩
  conv => whnf
  refine Br.mk (fun c1 => ?_) (fun c1 => ?_)
  · have c1 : (k : Int) < (xs.length : Nat) := of_decide_eq_true c1
    refine Need.mk (show 0 ≤ (k : Int) ∧ (k : Int) < (xs.length : Nat) from ⟨by omega, by omega⟩) ?_
    conv => whnf
    have hk : k < xs.length := by omega
    have htake : xs.take (k + 1) = xs.take k ++ [xs.getD k 0] := by
      rw [List.take_succ_eq_append_getElem hk, List.getD_eq_getElem?_getD, List.getElem?_eq_getElem hk]; rfl
    refine Br.mk (fun c2 => ?_) (fun c2 => ?_)
    · have c2 : (nth xs k 0 != 0) = true := c2
      rw [nth_eq] at c2
      conv => whnf
      have : xs.all (· == 0) = false := by
        cases h : xs.all (· == 0) with
        | false => rfl
        | true =>
          rw [List.all_eq_true] at h
          have := h (xs.getD k 0) (by rw [List.getD_eq_getElem?_getD, List.getElem?_eq_getElem hk]; exact List.getElem_mem hk)
          simp at this c2; exact absurd this c2
      rw [this]
    · have c2 : (nth xs k 0 != 0) = false := c2
      rw [nth_eq] at c2
      refine ⟨k + 1, [], ⟨by omega, ?_⟩, by omega, ⟨⟨⟨rfl, ?_⟩, trivial⟩, ⟨rfl, trivial⟩, rfl⟩, rfl⟩
      · rw [htake, List.all_append, h2]
        simp at c2 ⊢; exact c2
      · show AVal.sc (.int false .i64 (IntKind.i64.wrap ((k : Int) + 1))) = .sc (.int false .i64 ((k + 1 : Nat) : Int))
        rw [wrapI (by omega) (by omega)]; rfl
  · have c1 : ¬ (k : Int) < (xs.length : Nat) := of_decide_eq_false c1
    conv => whnf
    rw [List.take_of_length_le (by omega)] at h2
    rw [h2]

def shortB (xs : List ByteArray) (most len : Int) : Bool := decide ((xs.length : Int) ≤ most) && xs.all (fun s => decide ((s.size : Int) ≤ len))
theorem Short_base (xs : List ByteArray) (most len : Int) : TripleF Try.prog 82 [.sc (.h 0), .sc (.int false .i64 most), .sc (.int false .i64 len)] [.ro (strK 9) xs] (fun r _ => r = .sc (.bool (shortB xs most len)) ∧ r.below 0 = true) := by
  refine base_of_awp (R := fun r => r = .sc (.bool (shortB xs most len))) E2ok Try.func82 rfl (by kernel_rfl) ?_
  refine Know.mk fun hlen => ?_
  have hlen : xs.length ≤ 9223372036854775807 := hlen
  conv => whnf
  refine Br.mk (fun c0 => ?_) (fun c0 => ?_)
  · have c0 : (xs.length : Int) > most := of_decide_eq_true c0
    conv => whnf
    rw [shortB, decide_eq_false (by omega), Bool.false_and]
  have c0 : ¬ (xs.length : Int) > most := of_decide_eq_false c0
  conv => whnf
  refine LoopF.inv Nat (fun k => k ≤ xs.length ∧ (xs.take k).all (fun s => decide ((s.size : Int) ≤ len)) = true) (fun k => [(7, .sc (.int false .i64 (k : Int)))]) (fun k => xs.length - k) (fun _ => [AM.Item.ro (strK 9) xs]) (fun _ => Nat.le_refl _) 0 []
    ⟨Nat.zero_le _, rfl⟩ ⟨⟨⟨rfl, rfl⟩, trivial⟩, ⟨rfl, trivial⟩, rfl⟩ ?_
  rintro k ⟨h1, h2⟩
  conv => whnf
  refine Know.mk fun hlen => ?_
  conv => whnf
  refine Br.mk (fun c1 => ?_) (fun c1 => ?_)
  · have c1 : (k : Int) < (xs.length : Nat) := of_decide_eq_true c1
    refine Need.mk (show 0 ≤ (k : Int) ∧ (k : Int) < (xs.length : Nat) from ⟨by omega, by omega⟩) ?_
    conv => whnf
    have hk : k < xs.length := by omega
    have htake : xs.take (k + 1) = xs.take k ++ [xs.getD k ByteArray.empty] := by
      rw [List.take_succ_eq_append_getElem hk, List.getD_eq_getElem?_getD, List.getElem?_eq_getElem hk]; rfl
    refine Br.mk (fun c2 => ?_) (fun c2 => ?_)
    · have c2 : ((nth xs k ByteArray.empty).size : Int) > len := of_decide_eq_true c2
      rw [nth_eq] at c2
      conv => whnf
      have : xs.all (fun s => decide ((s.size : Int) ≤ len)) = false := by
        cases h : xs.all (fun s => decide ((s.size : Int) ≤ len)) with
        | false => rfl
        | true =>
          rw [List.all_eq_true] at h
          have := h (xs.getD k ByteArray.empty) (by rw [List.getD_eq_getElem?_getD, List.getElem?_eq_getElem hk]; exact List.getElem_mem hk)
          have := of_decide_eq_true this
          omega
      rw [shortB, this, Bool.and_false]
    · have c2 : ¬ ((nth xs k ByteArray.empty).size : Int) > len := of_decide_eq_false c2
      rw [nth_eq] at c2
      refine ⟨k + 1, [], ⟨by omega, ?_⟩, by omega, ⟨⟨⟨rfl, ?_⟩, trivial⟩, ⟨rfl, trivial⟩, rfl⟩, rfl⟩
      · rw [htake, List.all_append, h2]
        simp only [List.all_cons, List.all_nil, Bool.and_true, Bool.true_and, decide_eq_true_eq]; omega
      · show AVal.sc (.int false .i64 (IntKind.i64.wrap ((k : Int) + 1))) = .sc (.int false .i64 ((k + 1 : Nat) : Int))
        rw [wrapI (by omega) (by omega)]; rfl
  · have c1 : ¬ (k : Int) < (xs.length : Nat) := of_decide_eq_false c1
    conv => whnf
    rw [List.take_of_length_le (by omega)] at h2
    rw [shortB, h2, decide_eq_true (by omega)]; rfl

theorem zeros_fit {m : List AM.Item} {l : Bool} {t : Nat} {ys : List Int} (h : roFit2 m [.ro (intK 3 .i64) ys] [t]) {k} (hk : k (.sc (.bool (ys.all (· == 0)))) m) : TripleF Try.prog 85 [.sc (.h t)] m k :=
  frame_ro2 (zeros_base ys) [t] rfl rfl h fun r hr => hr ▸ hk
theorem Short_fit {m : List AM.Item} {l l' : Bool} {t : Nat} {ys : List ByteArray} {most len : Int} (h : roFit2 m [.ro (strK 9) ys] [t]) {k} (hk : k (.sc (.bool (shortB ys most len))) m) : TripleF Try.prog 82 [.sc (.h t), .sc (.int l .i64 most), .sc (.int l' .i64 len)] m k :=
  TripleF.std (frame_ro2 (Short_base ys most len) [t] rfl rfl h fun r hr => hr ▸ hk)
noncomputable def sp3a (f : FuncId) (args : List AVal) (m : List AM.Item) (k : AVal → List AM.Item → Prop) : Prop := match f, args with
  | 85, [.sc (.h t)] => rowS m t (intK 3 .i64) (fun ys : List Int => .sc (.bool (ys.all (· == 0)))) k
  | 82, [.sc (.h t), .sc (.int _ .i64 most), .sc (.int _ .i64 len)] => rowS m t (strK 9) (fun ys => .sc (.bool (shortB ys most len))) k
  | _, _ => False
theorem sp3a_ok : ∀ f args m k, sp3a f args m k → TripleF Try.prog f args m k := by
  intro f args m k h
  unfold sp3a at h
  split at h
  · obtain ⟨ys, hk, hf⟩ := rowS_fit h; exact zeros_fit (l := true) hf hk
  · obtain ⟨ys, hk, hf⟩ := rowS_fit h; exact Short_fit hf hk
  · exact h.elim
noncomputable def qt3 : QTab := fun f args => match f, args with
  | 33, [.agg [.str lo, .str hi, .bool e]] => some (none, .sc (.bool (emptyB ⟨lo, hi, e⟩)))
  | 87, [.sc (.str a), .sc (.str b)] => some (none, .sc (.int false .i64 (cmpS a b)))
  | 23, [.sc (.int _ .i64 n)] => some (none, .sc (.str (slotS n)))
  | 24, [.sc (.int _ .i64 n)] => some (none, .sc (.str (slotS n)))
  | 21, [.sc (.str s)] => some (none, numA s)
  | 22, [.sc (.str s)] => some (none, numA s)
  | 25, [.sc (.str a), .sc (.str b)] => some (some (a.size ≤ 281474976710656), .sc (.str (sepS a b)))
  | 27, [.sc (.str a), .sc (.str b)] => some (some (a.size ≤ 281474976710656 ∧ b.size ≤ 281474976710656), .sc (.str (sepS a b)))
  | f, args => qt2 f args
theorem qt3ok : qt3.Ok Try.prog := by
  intro f args p r h hp m k hk
  unfold qt3 at h
  split at h
  · cases h; exact empty_ok ⟨_, _, _⟩ hk
  · cases h; exact compare_ok _ _ hk
  · cases h; exact slot_ok _ hk
  · cases h; exact rslot_ok _ hk
  · cases h; exact number_ok _ hk
  · cases h; exact rnumber_ok _ hk
  · cases h; exact sep_ok _ _ (hp _ rfl) hk
  · cases h; exact rsep_ok _ _ (hp _ rfl).1 (hp _ rfl).2 hk
  · exact qt2ok f args p r h hp m k hk
def rngD : Rng := ⟨strE, strE, false⟩
noncomputable abbrev rngK : Kind where
  T := Rng
  d := rngD
  sz := 3
  elem := 33
  enc r := [.string r.lo, .string r.hi, .bool r.e]
  encA r := [.str r.lo, .str r.hi, .bool r.e]
  dec := fun
    | [.str lo, .str hi, .bool e] => some ⟨lo, hi, e⟩
    | [.str lo, .str hi, .lb e] => some ⟨lo, hi, e⟩
    | _ => none
  pos := by decide
  len := fun _ => rfl
  one := fun r u hu => by simp at hu; rcases hu with rfl | rfl | rfl <;> rfl
  rep := fun env x vs => ⟨fun ⟨v, vs', h1, h2, v2, vs2, h3, h4, v3, vs3, h5, h6, h7⟩ => by
    cases h7; cases h6; subst h5; cases h4; subst h3; cases h2; exact h1, fun h => ⟨_, _, h, rfl, _, _, rfl, rfl, _, _, rfl, rfl, rfl⟩⟩
  dec_ok := fun cs x h env vs hr => by
    split at h
    · cases h
      obtain ⟨v, vs', h1, h2, v2, vs2, h3, h4, v3, vs3, h5, h6, h7⟩ := hr
      cases h7; cases h6; subst h5; cases h4; subst h3; cases h2; exact h1
    · cases h
      obtain ⟨v, vs', h1, h2, v2, vs2, h3, h4, v3, vs3, h5, h6, h7⟩ := hr
      cases h7; cases h6; subst h5; cases h4; subst h3; cases h2; exact h1
    · cases h
noncomputable def kindsT3 (e : TypeId) : Option Kind := match e with
  | 3 => some (intK 3 .i64)
  | 5 => some (intK 5 .u8)
  | 9 => some (strK 9)
  | 33 => some rngK
  | _ => none
noncomputable def E3a : Eng := mkEng Try.prog kindsT3 noEq qt3 sp3a noQ
theorem E3aok : E3a.Ok := mkEng_ok mixedT qt3ok sp3a_ok (fun _ _ _ _ _ h => by cases h) (fun _ _ _ _ h => by cases h)

theorem short_base (xs : List ByteArray) : TripleF Try.prog 20 [.sc (.h 0)] [.ro (strK 9) xs] (fun r _ => r = .sc (.bool (shortB xs 10 100)) ∧ r.below 0 = true) := by
  refine base_of_awp (R := fun r => r = .sc (.bool (shortB xs 10 100))) E3aok Try.func20 rfl (by kernel_rfl) ?_
  conv => whnf
  refine Cast.mk _ _ ?_
  conv => whnf
theorem short_fit {m : List AM.Item} {t : Nat} {ys : List ByteArray} (h : roFit2 m [.ro (strK 9) ys] [t]) {k} (hk : k (.sc (.bool (shortB ys 10 100))) m) : TripleF Try.prog 20 [.sc (.h t)] m k :=
  frame_ro2 (short_base ys) [t] rfl rfl h fun r hr => hr ▸ hk
noncomputable def sp3b (f : FuncId) (args : List AVal) (m : List AM.Item) (k : AVal → List AM.Item → Prop) : Prop := match f, args with
  | 20, [.sc (.h t)] => rowS m t (strK 9) (fun ys => .sc (.bool (shortB ys 10 100))) k
  | f, args => sp3a f args m k
theorem sp3b_ok : ∀ f args m k, sp3b f args m k → TripleF Try.prog f args m k := by
  intro f args m k h
  unfold sp3b at h
  split at h
  · obtain ⟨ys, hk, hf⟩ := rowS_fit h; exact short_fit hf hk
  · exact sp3a_ok _ _ _ _ h
noncomputable def qs3b (f : FuncId) (args : List AVal) (m : List AM.Item) : Option (Prop × AVal) := match f, args with
  | 20, [.sc (.h t)] => rowQ m t (strK 9) (fun ys => .sc (.bool (shortB ys 10 100)))
  | _, _ => none
theorem qs3b_ok : ∀ f args m p r, qs3b f args m = some (p, r) → p → ∀ m2, LeM m m2 → TripleF Try.prog f args m2 fun r' m' => r' = r ∧ m' = m2 := by
  intro f args m p r h hp m2 hle
  unfold qs3b at h
  split at h
  · obtain ⟨ys, rfl, hf⟩ := rowQ_fit h hle
    exact short_fit hf ⟨rfl, rfl⟩
  · cases h
noncomputable def E3b : Eng := mkEng Try.prog kindsT3 noEq qt3 sp3b qs3b
theorem E3bok : E3b.Ok := mkEng_ok mixedT qt3ok sp3b_ok qs3b_ok (fun _ _ _ _ h => by cases h)

def fewB (xs : List Rng) : Bool := xs.all fun r => shortB [r.lo, r.hi] 10 100
theorem few_base (xs : List Rng) : TripleF Try.prog 30 [.sc (.h 0)] [.ro rngK xs] (fun r _ => r = .sc (.bool (fewB xs)) ∧ r.below 0 = true) := by
  refine base_of_awp (R := fun r => r = .sc (.bool (fewB xs))) E3bok Try.func30 rfl (by kernel_rfl) ?_
  conv => whnf
  refine LoopF.inv Nat (fun k => k ≤ xs.length ∧ fewB (xs.take k) = true) (fun k => [(3, .sc (.int false .i64 (k : Int)))]) (fun k => xs.length - k) (fun _ => [AM.Item.ro rngK xs]) (fun _ => Nat.le_refl _) 0 []
    ⟨Nat.zero_le _, rfl⟩ ⟨⟨⟨rfl, rfl⟩, trivial⟩, ⟨rfl, trivial⟩, rfl⟩ ?_
  rintro k ⟨h1, h2⟩
  conv => whnf
  refine Know.mk fun hlen => ?_
  have hlen : xs.length ≤ 9223372036854775807 := hlen
  conv => whnf
  refine Br.mk (fun c1 => ?_) (fun c1 => ?_)
  · have c1 : (k : Int) < (xs.length : Nat) := of_decide_eq_true c1
    have hk : k < xs.length := by omega
    have htake : xs.take (k + 1) = xs.take k ++ [xs.getD k rngD] := by
      rw [List.take_succ_eq_append_getElem hk, List.getD_eq_getElem?_getD, List.getElem?_eq_getElem hk]; rfl
    refine Need.mk (show 0 ≤ (k : Int) ∧ (k : Int) < (xs.length : Nat) from ⟨by omega, by omega⟩) ?_
    conv => whnf
    refine Need.mk (show 0 ≤ (k : Int) ∧ (k : Int) < (xs.length : Nat) from ⟨by omega, by omega⟩) ?_
    conv => whnf
    refine Need.mk trivial ?_
    conv => whnf
    refine Need.mk (by kernel_rfl) ?_
    conv => whnf
    refine Br.mk (fun c2 => ?_) (fun c2 => ?_)
    · have c2 : (!shortB [(nth xs k rngD).lo, (nth xs k rngD).hi] 10 100) = true := c2
      rw [nth_eq, Bool.not_eq_true'] at c2
      conv => whnf
      have : fewB xs = false := by
        cases h : fewB xs with
        | false => rfl
        | true =>
          unfold fewB at h
          rw [List.all_eq_true] at h
          have := h (xs.getD k rngD) (by rw [List.getD_eq_getElem?_getD, List.getElem?_eq_getElem hk]; exact List.getElem_mem hk)
          rw [c2] at this; cases this
      rw [this]
    · have c2 : (!shortB [(nth xs k rngD).lo, (nth xs k rngD).hi] 10 100) = false := c2
      rw [nth_eq, Bool.not_eq_false'] at c2
      refine ⟨k + 1, [], ⟨by omega, ?_⟩, by omega, ⟨⟨⟨rfl, ?_⟩, trivial⟩, ⟨rfl, trivial⟩, rfl⟩, rfl⟩
      · unfold fewB at h2 ⊢
        rw [htake, List.all_append, h2]
        simp only [List.all_cons, List.all_nil, Bool.and_true, Bool.true_and]; exact c2
      · show AVal.sc (.int false .i64 (IntKind.i64.wrap ((k : Int) + 1))) = .sc (.int false .i64 ((k + 1 : Nat) : Int))
        rw [wrapI (by omega) (by omega)]; rfl
  · have c1 : ¬ (k : Int) < (xs.length : Nat) := of_decide_eq_false c1
    conv => whnf
    rw [List.take_of_length_le (by omega)] at h2
    rw [h2]
end Go.Proofs.Ytljokmmgkecjbaa

namespace Go.Proofs.Ytljokmmgkecjbaa
open Go Go.AM

theorem overlap_ok (a b : Rng) {m K} (hk : K (.sc (.bool (!emptyB (meetR a b)))) m) : TripleF Try.prog 31 [a.A, b.A] m K := by
  obtain ⟨lo, hi, e⟩ := a
  obtain ⟨lo2, hi2, e2⟩ := b
  refine pure_of_awp (R := fun r' => r' = .sc (.bool (!emptyB (meetR ⟨lo, hi, e⟩ ⟨lo2, hi2, e2⟩)))) E3bok Try.func31 rfl (by kernel_rfl) rfl ?_ (fun r h => h ▸ hk)
  conv => whnf
theorem roverlap_ok (a b : Rng) {m K} (hk : K (.sc (.bool (!emptyB (meetR a b)))) m) : TripleF Try.prog 42 [a.A, b.A] m K := by
  obtain ⟨lo, hi, e⟩ := a
  obtain ⟨lo2, hi2, e2⟩ := b
  refine pure_of_awp (R := fun r' => r' = .sc (.bool (!emptyB (meetR ⟨lo, hi, e⟩ ⟨lo2, hi2, e2⟩)))) E3bok Try.func42 rfl (by kernel_rfl) rfl ?_ (fun r h => h ▸ hk)
  conv => whnf
theorem cmpS_le (a b : ByteArray) : decide (cmpS a b ≤ 0) = !sLess b a := by
  unfold cmpS sLess
  rw [Lib.toList_data, Lib.toList_data]
  exact cmpL_le _ _
theorem covers_ok (a b : Rng) {m K} (hk : K (.sc (.bool (coversB a b))) m) : TripleF Try.prog 43 [a.A, b.A] m K := by
  obtain ⟨lo, hi, e⟩ := a
  obtain ⟨lo2, hi2, e2⟩ := b
  refine pure_of_awp (R := fun r' => r' = .sc (.bool (coversB ⟨lo, hi, e⟩ ⟨lo2, hi2, e2⟩))) E3bok Try.func43 rfl (by kernel_rfl) rfl ?_ (fun r h => h ▸ hk)
  refine Br.mk (fun c1 => ?_) (fun c1 => ?_)
  · conv => whnf
    rw [coversB, c1]; rfl
  refine Br.mk (fun c2 => ?_) (fun c2 => ?_)
  · conv => whnf
    have c2 : sLess lo2 lo = true := c2
    rw [coversB, c1, c2]; rfl
  have c2 : sLess lo2 lo = false := c2
  refine Br.mk (fun c3 => ?_) (fun c3 => ?_)
  · conv => whnf
    rw [coversB, c1, c2, c3]; rfl
  conv => whnf
  refine Br.mk (fun c4 => ?_) (fun c4 => ?_)
  · conv => whnf
    rw [coversB, c1, c2, c3]
    simp at c4
    rw [cmpS_le, c4]; rfl
  · conv => whnf
    rw [coversB, c1, c2, c3]
    simp at c4
    rw [c4]; rfl
theorem rcovers_ok (a b : Rng) {m K} (hk : K (.sc (.bool (coversB a b))) m) : TripleF Try.prog 44 [a.A, b.A] m K := by
  obtain ⟨lo, hi, e⟩ := a
  obtain ⟨lo2, hi2, e2⟩ := b
  refine pure_of_awp (R := fun r' => r' = .sc (.bool (coversB ⟨lo, hi, e⟩ ⟨lo2, hi2, e2⟩))) E3bok Try.func44 rfl (by kernel_rfl) rfl ?_ (fun r h => h ▸ hk)
  refine Br.mk (fun c1 => ?_) (fun c1 => ?_)
  · conv => whnf
    rw [coversB, c1]; rfl
  refine Br.mk (fun c2 => ?_) (fun c2 => ?_)
  · have c2 : (!sLess lo2 lo) = true := c2
    conv => whnf
    refine Br.mk (fun c3 => ?_) (fun c3 => ?_)
    · conv => whnf
      rw [coversB, c1, c2, c3]; rfl
    conv => whnf
    refine Br.mk (fun c4 => ?_) (fun c4 => ?_)
    · conv => whnf
      have := sEq_or hi2 hi
      unfold sLess sEq at this
      rw [coversB, c1, c2, c3]
      simp at c4
      rw [c4, this]; rfl
    · conv => whnf
      rw [coversB, c1, c2, c3]
      simp at c4
      rw [c4]; rfl
  · have c2 : (!sLess lo2 lo) = false := c2
    conv => whnf
    rw [coversB, c1, c2]; rfl
theorem rfront_ok (a b : ByteArray) (ha : a.size ≤ 281474976710656) {m K} (hk : K (.sc (.int false .i64 (front a b))) m) : TripleF Try.prog 28 [.sc (.str a), .sc (.str b)] m K := by
  refine pure_of_awp (R := fun r' => r' = .sc (.int false .i64 (front a b))) E0ok Try.func28 rfl (by kernel_rfl) rfl ?_ (fun r h => h ▸ hk)
  refine LoopF.inv Nat (fun k => k ≤ a.size ∧ k ≤ b.size ∧ front a b = k + frontFrom (a.data.toList.drop k) (b.data.toList.drop k)) (fun k => [(5, .sc (.int false .i64 (k : Int)))]) (fun k => a.size - k) (fun _ => []) (fun _ => Nat.le_refl _) 0 []
    ⟨Nat.zero_le _, Nat.zero_le _, by simp [front]⟩ ⟨⟨⟨rfl, rfl⟩, trivial⟩, trivial, rfl⟩ ?_
  rintro k ⟨h1, h2, h3⟩
  have e1 := size_list a
  have e2 := size_list b
  refine Need.mk (by kernel_rfl) ?_
  refine Br.mk (fun c1 => ?_) (fun c1 => ?_)
  · have c1 : (k : Int) < a.size := of_decide_eq_true c1
    refine Br.mk (fun c2 => ?_) (fun c2 => ?_)
    · have c2 : (k : Int) < b.size := of_decide_eq_true c2
      have d1 := drop_cons (l := a.data.toList) (k := k) (by omega)
      have d2 := drop_cons (l := b.data.toList) (k := k) (by omega)
      refine Need.mk ⟨by omega, by omega⟩ ?_
      refine Need.mk ⟨by omega, by omega⟩ ?_
      refine Br.mk (fun c3 => ?_) (fun c3 => ?_)
      · have c3 : byteAt a k = byteAt b k := by simpa using c3
        have he : a.data.toList.getD k 0 = b.data.toList.getD k 0 := by
          simp only [byteAt] at c3
          exact UInt8.toNat_inj.1 (by omega)
        refine ⟨k + 1, [], ⟨by omega, by omega, ?_⟩, by omega, ⟨⟨⟨rfl, ?_⟩, trivial⟩, trivial, rfl⟩, rfl⟩
        · rw [h3, d1, d2, frontFrom, if_pos he]; omega
        · show AVal.sc (.int false .i64 (IntKind.i64.wrap ((k : Int) + 1))) = .sc (.int false .i64 ((k + 1 : Nat) : Int))
          rw [wrapI (by omega) (by omega)]; rfl
      · have c3 : ¬ byteAt a k = byteAt b k := by simpa using c3
        have he : ¬ a.data.toList.getD k 0 = b.data.toList.getD k 0 := by
          intro e
          exact c3 (by simp only [byteAt, e])
        conv => whnf
        rw [h3, d1, d2, frontFrom, if_neg he]; rfl
    · have c2 : ¬ (k : Int) < b.size := of_decide_eq_false c2
      have d2 : b.data.toList.drop k = [] := List.drop_eq_nil_of_le (by omega)
      conv => whnf
      rw [h3, d2]
      cases a.data.toList.drop k <;> rfl
  · have c1 : ¬ (k : Int) < a.size := of_decide_eq_false c1
    have d1 : a.data.toList.drop k = [] := List.drop_eq_nil_of_le (by omega)
    conv => whnf
    rw [h3, d1]
    rfl

structure DS where
  id : Int
  org : Int
  fmt : Int
  len : Int
  blk : Int
  kat : Int
  kln : Int
  itv : Int
  area : Int
  fi : Int
  fa : Int
  base : Int
  aat : Int
  aln : Int
  uniq : Bool
  cls : Int
  vol : ByteArray
  own : ByteArray
  cre : Int
  exp : Int
  arch : Bool
def DS.A (d : DS) : AVal := .agg [.int false .i64 d.id, .int false .i64 d.org, .int false .i64 d.fmt, .int false .i64 d.len, .int false .i64 d.blk, .int false .i64 d.kat, .int false .i64 d.kln, .int false .i64 d.itv, .int false .i64 d.area, .int false .i64 d.fi, .int false .i64 d.fa,
  .int false .i64 d.base, .int false .i64 d.aat, .int false .i64 d.aln, .bool d.uniq, .int false .i64 d.cls, .str d.vol, .str d.own, .int false .i64 d.cre, .int false .i64 d.exp, .bool d.arch]
/-- the description of a cluster is valid -/
def ValidP (d : DS) : Prop := (d.itv = 128 ∨ d.itv = 256 ∨ d.itv = 512) ∧ 1 ≤ d.org ∧ d.org ≤ 3 ∧ 1 ≤ d.len ∧ d.len ≤ 200 ∧ d.len ≤ d.itv - 7 ∧ d.fmt = 0 ∧ d.blk = 0 ∧
  (d.org ≠ 3 → d.kat = 0 ∧ d.kln = 0 ∧ d.area = 0 ∧ d.fi = 0 ∧ d.fa = 0) ∧
  (d.org = 3 → d.len ≤ d.itv / 2 - 8 ∧ 0 ≤ d.kat ∧ d.kat ≤ d.len ∧ 1 ≤ d.kln ∧ d.kln ≤ d.itv / 16 ∧ d.kat + d.kln ≤ d.len ∧ 2 ≤ d.area ∧ d.area ≤ 8 ∧ 0 ≤ d.fi ∧ d.fi ≤ 90 ∧ 0 ≤ d.fa ∧ d.fa ≤ d.area - 1)
instance (d : DS) : Decidable (ValidP d) := by unfold ValidP; infer_instance
def validB (d : DS) : Bool := decide (ValidP d)
theorem wrap_mod (n : Int) : IntKind.i64.wrap n = (n + 9223372036854775808) % 18446744073709551616 - 9223372036854775808 := by
  simp only [IntKind.wrap, IntKind.signed, IntKind.bits, Bool.true_and, decide_eq_true_eq, show (2 : Int) ^ 64 = 18446744073709551616 from rfl, show (2 : Int) ^ (64 - 1) = 9223372036854775808 from rfl]
  split <;> omega
theorem le_minI (x y z : Int) : x ≤ minI y z ↔ x ≤ y ∧ x ≤ z := by
  unfold minI; split <;> omega
theorem valid_ok (d : DS) {m K} (hk : K (.sc (.bool (validB d))) m) : TripleF Try.prog 37 [d.A] m K := by
  obtain ⟨id, org, fmt, len, blk, kat, kln, itv, area, fi, fa, base, aat, aln, uniq, cls, vol, own, cre, exp, arch⟩ := d
  refine pure_of_awp (R := fun r' => r' = .sc (.bool (validB ⟨id, org, fmt, len, blk, kat, kln, itv, area, fi, fa, base, aat, aln, uniq, cls, vol, own, cre, exp, arch⟩))) E3bok Try.func37 rfl (by kernel_rfl) rfl ?_ (fun r h => h ▸ hk)
  clear hk
  simp only [DS.A]
  conv => whnf
  refine LoopF.unroll 4 ?_
  conv => whnf
  repeat' ((conv => whnf); first | refine Br.mk (fun _ => ?_) (fun _ => ?_) | refine Cast.mk _ _ ?_)
  all_goals (conv => whnf)
  all_goals refine congrArg (fun b => AVal.sc (.bool b)) ?_
  all_goals simp only [beq_iff_eq, beq_eq_false_iff_ne, bne_iff_ne, ne_eq, bne_eq_false_iff_eq, Bool.not_eq_true', Bool.not_eq_false', Bool.and_eq_true, Bool.and_eq_false_iff, decide_eq_true_eq, decide_eq_false_iff_not, List.all_cons, List.all_nil, Bool.and_true, le_minI, wrap_mod, Bool.not_eq_true, Bool.not_eq_false] at *
  all_goals (rw [Bool.eq_iff_iff, validB, decide_eq_true_eq, ValidP])
  all_goals simp only [Bool.and_eq_true, decide_eq_true_eq, Bool.false_eq_true, beq_iff_eq, List.all_cons, List.all_nil, Bool.and_true, le_minI, wrap_mod]
  all_goals (try subst_vars)
  all_goals (refine ⟨fun h => ?_, fun h => ?_⟩)
  all_goals (first | omega | exact h.elim | (simp at *; done) | (simp at *; omega) | skip)
end Go.Proofs.Ytljokmmgkecjbaa

namespace Go.Proofs.Ytljokmmgkecjbaa
open Go Go.AM

/-! '==' of ranges, and of locks -/
theorem eq33 (a b a2 b2 : ByteArray) (e e2 : Bool) (w : World) (d : Nat) :
    (Op.equalIn (d + 2) 33 (.agg #[.string a, .string b, .bool e]) (.agg #[.string a2, .string b2, .bool e2])).run Try.prog w = .ok (sEq a a2 && sEq b b2 && (e == e2)) w := by
  have u9 := Try.underlying9
  have u4 := Try.underlying4
  have a9 := Try.isAgg9
  have a4 := Try.isAgg4
  have hS : Try.prog.underlying 33 = some (.struct (Try.prog.fieldsOf 33)) := by kernel_rfl
  have hp : Try.prog.stoodInHeld 33 = false := by kernel_rfl
  rw [show d + 2 = (d + 1) + 1 from rfl, run_equalIn_agg w (d + 1) 33 _ _ hS hp]
  simp only [Program.fieldsOf, Try.underlying33]
  go_simp
  unfold sEq
  cases h1 : (a.toList == a2.toList) <;> cases h2 : (b.toList == b2.toList) <;> cases e <;> cases e2 <;> simp_all

theorem eq58 (u i u2 i2 : Int) (a b a2 b2 : ByteArray) (e x e2 x2 : Bool) (w : World) (d : Nat) :
    (Op.equalIn (d + 3) 58 (.agg #[.int .i64 u, .int .i64 i, .string a, .string b, .bool e, .bool x]) (.agg #[.int .i64 u2, .int .i64 i2, .string a2, .string b2, .bool e2, .bool x2])).run Try.prog w = .ok ((u == u2) && (i == i2) && (sEq a a2 && sEq b b2 && (e == e2)) && (x == x2)) w := by
  have u3 := Try.underlying3
  have u4 := Try.underlying4
  have u33 := Try.underlying33
  have a3 := Try.isAgg3
  have a4 := Try.isAgg4
  have a33 := Try.isAgg33
  have z33 := Try.sizeOf33
  have hS : Try.prog.underlying 58 = some (.struct (Try.prog.fieldsOf 58)) := by kernel_rfl
  have hp : Try.prog.stoodInHeld 58 = false := by kernel_rfl
  rw [show d + 3 = (d + 2) + 1 from rfl, run_equalIn_agg w (d + 2) 58 _ _ hS hp]
  simp only [Program.fieldsOf, Try.underlying58]
  go_simp
  unfold sEq
  cases h1 : (u == u2)
  · simp_all
  cases h2 : (i == i2)
  · simp_all
  cases h3 : (a.toList == a2.toList)
  · simp_all
  cases h4 : (b.toList == b2.toList)
  · simp_all
  cases e <;> cases e2 <;> cases x <;> cases x2 <;> simp_all

def eqA33 : List Sc → List Sc → Option Bool
  | [.str a, .str b, c], [.str a2, .str b2, c2] => match boolOf c, boolOf c2 with
    | some e, some e2 => some (sEq a a2 && sEq b b2 && (e == e2))
    | _, _ => none
  | _, _ => none
def eqA58 : List Sc → List Sc → Option Bool
  | [.int _ .i64 u, .int _ .i64 i, .str a, .str b, c, d], [.int _ .i64 u2, .int _ .i64 i2, .str a2, .str b2, c2, d2] => match boolOf c, boolOf c2, boolOf d, boolOf d2 with
    | some e, some e2, some x, some x2 => some ((u == u2) && (i == i2) && (sEq a a2 && sEq b b2 && (e == e2)) && (x == x2))
    | _, _, _, _ => none
  | _, _ => none
noncomputable def eqT (T : TypeId) (xs ys : List Sc) : Option Bool := match T with
  | 33 => eqA33 xs ys
  | 58 => eqA58 xs ys
  | _ => none
theorem eqT_ok : ∀ T xs ys b, eqT T xs ys = some b → ∀ env vs us w x y, SRepL env xs vs → SRepL env ys us →
    (do eqGuard .eql T x y (.agg ⟨vs⟩) (.agg ⟨us⟩); binOp .eql T (.agg ⟨vs⟩) (.agg ⟨us⟩) : Sem Value).run Try.prog w = .ok (.bool b) w ∧
    (do eqGuard .neq T x y (.agg ⟨vs⟩) (.agg ⟨us⟩); binOp .neq T (.agg ⟨vs⟩) (.agg ⟨us⟩) : Sem Value).run Try.prog w = .ok (.bool (!b)) w := by
  intro T xs ys b h env vs us w x y hx hy
  unfold eqT at h
  split at h
  · unfold eqA33 at h
    split at h
    · split at h
      · rename_i he he2
        cases h
        obtain ⟨v, _, rfl, hv, v2, _, rfl, hv2, v3, _, rfl, hv3, rfl⟩ := hx
        obtain ⟨u, _, rfl, hu, u2, _, rfl, hu2, u3, _, rfl, hu3, rfl⟩ := hy
        cases hv; cases hv2; cases hu; cases hu2
        rw [boolOf_rep he hv3, boolOf_rep he2 hu3]
        constructor
        · rw [Sem.run_bind, run_eqGuard_agg w _ _ _ _ _ _ (by kernel_rfl), Result.andThen_ok, run_eql_struct, show (10000 : Nat) = 9998 + 2 from rfl, eq33]; rfl
        · rw [Sem.run_bind, run_eqGuard_agg w _ _ _ _ _ _ (by kernel_rfl), Result.andThen_ok, run_neq_struct, show (10000 : Nat) = 9998 + 2 from rfl, eq33]; rfl
      · cases h
    · cases h
  · unfold eqA58 at h
    split at h
    · split at h
      · rename_i he he2 hx hx2
        cases h
        rename_i hX hY _ _ _ _ _ _ _ _
        obtain ⟨v, _, rfl, hv, v2, _, rfl, hv2, v3, _, rfl, hv3, v4, _, rfl, hv4, v5, _, rfl, hv5, v6, _, rfl, hv6, rfl⟩ := ‹SRepL env [.int _ .i64 _, .int _ .i64 _, .str _, .str _, _, _] vs›
        obtain ⟨u, _, rfl, hu, u2, _, rfl, hu2, u3, _, rfl, hu3, u4, _, rfl, hu4, u5, _, rfl, hu5, u6, _, rfl, hu6, rfl⟩ := ‹SRepL env [.int _ .i64 _, .int _ .i64 _, .str _, .str _, _, _] us›
        cases hv; cases hv2; cases hv3; cases hv4; cases hu; cases hu2; cases hu3; cases hu4
        rw [boolOf_rep he hv5, boolOf_rep he2 hu5, boolOf_rep hx hv6, boolOf_rep hx2 hu6]
        constructor
        · rw [Sem.run_bind, run_eqGuard_agg w _ _ _ _ _ _ (by kernel_rfl), Result.andThen_ok, run_eql_struct, show (10000 : Nat) = 9997 + 3 from rfl, eq58]; rfl
        · rw [Sem.run_bind, run_eqGuard_agg w _ _ _ _ _ _ (by kernel_rfl), Result.andThen_ok, run_neq_struct, show (10000 : Nat) = 9997 + 3 from rfl, eq58]; rfl
      · cases h
    · cases h
  · cases h
end Go.Proofs.Ytljokmmgkecjbaa

namespace Go.Proofs.Ytljokmmgkecjbaa
open Go Go.AM
/-! plain laws of ranges: strings ranked as numbers -/
theorem maxS_or (x y : ByteArray) : (sLess x y = true ∧ maxS x y = y) ∨ (sLess x y = false ∧ maxS x y = x) := by
  unfold maxS sLess
  cases h : Op.bytesLess x.toList y.toList <;> simp
theorem minS_or (x y : ByteArray) : (sLess y x = false ∧ minS x y = x) ∨ (sLess y x = true ∧ minS x y = y) := by
  have := sEq_or x y
  unfold sEq sLess at this
  unfold minS sLess
  rw [this]
  cases h : Op.bytesLess y.toList x.toList <;> simp
theorem less_max (k x y : ByteArray) : sLess k (maxS x y) = (sLess k x || sLess k y) := by
  rcases maxS_or x y with ⟨h1, h⟩ | ⟨h1, h⟩ <;> rw [h] <;> rw [Bool.eq_iff_iff] <;>
  simp only [rank_sLess (L := [k, x, y]), List.mem_cons, true_or, or_true, decide_eq_true_eq, decide_eq_false_iff_not, Bool.or_eq_true] at h1 ⊢ <;> omega
theorem max_less (k x y : ByteArray) : sLess (maxS x y) k = (sLess x k && sLess y k) := by
  rcases maxS_or x y with ⟨h1, h⟩ | ⟨h1, h⟩ <;> rw [h] <;> rw [Bool.eq_iff_iff] <;>
  simp only [rank_sLess (L := [k, x, y]), List.mem_cons, true_or, or_true, decide_eq_true_eq, decide_eq_false_iff_not, Bool.and_eq_true] at h1 ⊢ <;> omega
theorem min_less (k x y : ByteArray) : sLess (minS x y) k = (sLess x k || sLess y k) := by
  rcases minS_or x y with ⟨h1, h⟩ | ⟨h1, h⟩ <;> rw [h] <;> rw [Bool.eq_iff_iff] <;>
  simp only [rank_sLess (L := [k, x, y]), List.mem_cons, true_or, or_true, decide_eq_true_eq, decide_eq_false_iff_not, Bool.or_eq_true] at h1 ⊢ <;> omega

theorem meet_in (a b : Rng) (k : ByteArray) : inB (meetR a b) k = (inB a k && inB b k) := by
  obtain ⟨lo, hi, e⟩ := a
  obtain ⟨lo2, hi2, e2⟩ := b
  cases e <;> cases e2 <;>
  simp only [inB_eq, meetR, Bool.and_true, Bool.and_false, Bool.true_and, Bool.false_and, Bool.true_or, Bool.false_or, if_true, if_false, Bool.false_eq_true,
    rank_sLess (L := [lo, hi, lo2, hi2, k]), less_max, max_less, min_less, List.mem_cons, true_or, or_true] <;>
  (rw [Bool.eq_iff_iff]; simp only [Bool.and_eq_true, Bool.not_eq_true', decide_eq_false_iff_not, Bool.or_eq_false_iff, Bool.and_eq_false_iff] <;> omega)
theorem empty_in (a : Rng) (k : ByteArray) (h : emptyB a = true) : inB a k = false := by
  obtain ⟨lo, hi, e⟩ := a
  cases e
  · simp only [inB_eq, emptyB, Bool.not_false, Bool.true_and, Bool.false_or, rank_sLess (L := [lo, hi, k]), List.mem_cons, true_or, or_true, decide_eq_true_eq] at h ⊢
    simp only [Bool.and_eq_false_iff, Bool.not_eq_false', decide_eq_true_eq]; omega
  · simp [emptyB] at h
theorem empty_lo (a : Rng) : emptyB a = !inB a a.lo := (empty_eq a).symm
theorem inB_lo (a : Rng) (k : ByteArray) (h : inB a k = true) : emptyB a = false := by
  cases h' : emptyB a with
  | false => rfl
  | true => rw [empty_in a k h'] at h; cases h
theorem covers_in (a b : Rng) (k : ByteArray) (h : coversB a b = true) (h2 : inB b k = true) : inB a k = true := by
  have h3 := inB_lo b k h2
  obtain ⟨lo, hi, e⟩ := a
  obtain ⟨lo2, hi2, e2⟩ := b
  unfold coversB at h
  rw [h3, Bool.false_or] at h
  cases e <;> cases e2 <;>
  simp only [inB_eq, Bool.and_true, Bool.and_false, Bool.true_and, Bool.false_and, Bool.true_or, Bool.false_or, if_true, if_false, Bool.false_eq_true, Bool.not_true, Bool.not_false,
    rank_sLess (L := [lo, hi, lo2, hi2, k]), List.mem_cons, true_or, or_true, Bool.and_eq_true, Bool.not_eq_true', decide_eq_false_iff_not] at h h2 ⊢ <;> omega
theorem meet_lo (a b : Rng) : (meetR a b).lo = maxS a.lo b.lo := rfl
theorem maxS_comm (x y : ByteArray) : maxS x y = maxS y x := by
  rcases maxS_or x y with ⟨h1, h⟩ | ⟨h1, h⟩ <;> rcases maxS_or y x with ⟨g1, g⟩ | ⟨g1, g⟩ <;> rw [h, g]
  · have := sLess_trans h1 g1; rw [sLess_irrefl] at this; cases this
  · rcases sLess_tri x y with h' | h' | h'
    · rw [h1] at h'; cases h'
    · exact h'
    · rw [g1] at h'; cases h'
theorem meet_comm (a b : Rng) : emptyB (meetR a b) = emptyB (meetR b a) := by
  rw [empty_lo, empty_lo, meet_in, meet_in, meet_lo, meet_lo, maxS_comm a.lo b.lo, Bool.and_comm]
theorem point_in (k : ByteArray) : inB ⟨k, k, false⟩ k = true := by rw [inB_eq, sLess_irrefl]; rfl
theorem bytesLess_snoc : ∀ (k : List UInt8) (l : List UInt8), l ≠ [] → Op.bytesLess k (k ++ l) = true
  | [], [], h => absurd rfl h
  | [], _ :: _, _ => rfl
  | a :: k, l, h => by simp [Op.bytesLess, bytesLess_snoc k l h]
theorem sLess_snoc (k s : ByteArray) (h : s.data.toList ≠ []) : sLess k (k ++ s) = true := by
  unfold sLess
  rw [Lib.toList_data, Lib.toList_data]
  have : (k ++ s).data.toList = k.data.toList ++ s.data.toList := by
    obtain ⟨k⟩ := k; obtain ⟨s⟩ := s
    simp [ByteArray.append_eq, ByteArray.data_append]
  rw [this]
  exact bytesLess_snoc _ _ h
theorem point_out (k s : ByteArray) (h : s.data.toList ≠ []) : inB ⟨k, k, false⟩ (k ++ s) = false := by
  rw [inB_eq]
  simp [sLess_snoc k s h]
theorem in_covers (a : Rng) (k : ByteArray) (h : inB a k = true) : coversB a ⟨k, k, false⟩ = true := by
  obtain ⟨lo, hi, e⟩ := a
  unfold coversB
  rw [inB_eq] at h
  cases e <;> simp_all
theorem helly (a b c : Rng) : ((!emptyB (meetR a b) && !emptyB (meetR b c)) && !emptyB (meetR a c)) = ((inB a (maxS (maxS a.lo b.lo) c.lo) && inB b (maxS (maxS a.lo b.lo) c.lo)) && inB c (maxS (maxS a.lo b.lo) c.lo)) := by
  obtain ⟨lo, hi, e⟩ := a
  obtain ⟨lo2, hi2, e2⟩ := b
  obtain ⟨lo3, hi3, e3⟩ := c
  simp only [empty_lo, meet_in, meet_lo, Bool.not_not]
  cases e <;> cases e2 <;> cases e3 <;>
  simp only [inB_eq, Bool.and_true, Bool.true_or, Bool.false_or,
    rank_sLess (L := [lo, hi, lo2, hi2, lo3, hi3]), less_max, max_less, min_less, List.mem_cons, true_or, or_true] <;>
  (rw [Bool.eq_iff_iff]; simp only [Bool.and_eq_true, Bool.not_eq_true', decide_eq_false_iff_not, Bool.or_eq_false_iff, Bool.and_eq_false_iff] <;> omega)
theorem helly2 (a b c : Rng) : emptyB (meetR a (meetR b c)) = !((inB a (maxS (maxS a.lo b.lo) c.lo) && inB b (maxS (maxS a.lo b.lo) c.lo)) && inB c (maxS (maxS a.lo b.lo) c.lo)) := by
  obtain ⟨lo, hi, e⟩ := a
  obtain ⟨lo2, hi2, e2⟩ := b
  obtain ⟨lo3, hi3, e3⟩ := c
  simp only [empty_lo, meet_in, meet_lo, Bool.not_not]
  cases e <;> cases e2 <;> cases e3 <;>
  simp only [inB_eq, Bool.and_true, Bool.true_or, Bool.false_or,
    rank_sLess (L := [lo, hi, lo2, hi2, lo3, hi3]), less_max, max_less, min_less, List.mem_cons, true_or, or_true] <;>
  (rw [Bool.eq_iff_iff]; simp only [Bool.and_eq_true, Bool.not_eq_true', decide_eq_false_iff_not, Bool.not_eq_true, Bool.not_eq_false, Bool.and_eq_false_iff, Bool.not_eq_false', decide_eq_true_eq, Bool.or_eq_false_iff, Bool.or_eq_true] <;> omega)
end Go.Proofs.Ytljokmmgkecjbaa

namespace Go.Proofs.Ytljokmmgkecjbaa
open Go Go.AM Go.ChangeShapes Go.RowKit Go.ChangeAt Go.WideShapes

theorem calls_below {P : Program} {f : FuncId} {args : List AVal} {vs : List Value} (h : TripleF P f args [] (fun r _ => r = .sc (.bool true))) (hr : RepL [] args vs) (W : World) :
    Calls P f ⟨vs⟩ W fun e W' => e = .returned (.bool true) ∧ Below W.heap.size W W' := by
  obtain ⟨_, hc⟩ := h W (fun _ => False) [] vs W ⟨fun _ _ => False, rfl, Keep.refl _ _, fun t it v h => by simp at h, fun _ _ _ h => h, fun _ _ _ h => h.elim, fun _ _ h => h.elim⟩ hr
  refine hc.mono ?_
  rintro e w' ⟨r, m', env', v, rfl, rfl, _, hv, fp, hf⟩
  have hv : v = .bool true := hv
  subst hv
  exact ⟨rfl, hf.keep.os, hf.keep.tape, hf.keep.output, hf.keep.size, fun k hk => hf.keep.block k hk (fun h => h)⟩

section
variable {H : Type} {enc : TypeId × Value → H} {P : Program} {w : World} {base : Nat} {spare : Nat → Bool} {held : Bool} {r : Reach} {b0 : Nat} {v : Value} {d : DataW H} {p : List MemPlace}
open Go.ChangeShapes Go.WideShapes Go.ChangeAt Go.RowKit Go.Deep

/-- a struct's one-cell fields, one by one -/
theorem open_fields {t : TypeId} {fs : Array Field} (hs : P.underlying t = some (.struct fs)) (hone : oneCellFields P fs = true) (hv : Value.okWide P w r b0 t v) (h : DataW.Trod enc P w base spare held t v d p) :
    ∃ cs : List Value, v = .agg ⟨cs⟩ ∧ cs.length = P.cellsOf t ∧ ∀ (i : Nat) (f : Field) (c : Value), fs[i]? = some f → cs[i]? = some c → ∃ n y, DataW.trod enc P w base spare held n f.type [c] = some y := by
  obtain ⟨cs, rfl, hsz⟩ := okWide_struct hs hv
  obtain ⟨fuel, hf⟩ := h
  obtain ⟨xs, n, _, _, hl, hlen, hfi⟩ := DataW.trod_struct hs hf
  refine ⟨cs.toList, rfl, by simpa using hsz, fun i f c hi hc => ?_⟩
  obtain ⟨o, k⟩ := hone_of hone i f hi
  have := hfi i f hi
  have hlt : i < xs.length := by rw [hlen]; exact (Array.getElem?_eq_some_iff.1 hi).1
  rw [List.getElem?_eq_getElem hlt] at this
  refine ⟨n, xs[i], ?_⟩
  rw [← this, o, k]
  congr 1
  have hci : ((Value.agg cs).cells.toList).drop i = c :: ((Value.agg cs).cells.toList).drop (i + 1) := by
    have hlt2 : i < cs.toList.length := (List.getElem?_eq_some_iff.1 hc).1
    have : (Value.agg cs).cells.toList = cs.toList := rfl
    rw [this, List.drop_eq_getElem_cons hlt2]
    congr 1
    exact (List.getElem?_eq_some_iff.1 hc).2
  rw [hci]; rfl
end

def Rng.V (r : Rng) : Value := .agg #[.string r.lo, .string r.hi, .bool r.e]
theorem Rng.rep (env : List Value) (r : Rng) : Rep env r.A r.V := ⟨_, rfl, _, _, rfl, rfl, _, _, rfl, rfl, _, _, rfl, rfl, rfl⟩
def DS.V (d : DS) : Value := .agg #[.int .i64 d.id, .int .i64 d.org, .int .i64 d.fmt, .int .i64 d.len, .int .i64 d.blk, .int .i64 d.kat, .int .i64 d.kln, .int .i64 d.itv, .int .i64 d.area, .int .i64 d.fi, .int .i64 d.fa,
  .int .i64 d.base, .int .i64 d.aat, .int .i64 d.aln, .bool d.uniq, .int .i64 d.cls, .string d.vol, .string d.own, .int .i64 d.cre, .int .i64 d.exp, .bool d.arch]
theorem DS.rep (env : List Value) (d : DS) : Rep env d.A d.V :=
  ⟨_, rfl, _, _, rfl, rfl, _, _, rfl, rfl, _, _, rfl, rfl, _, _, rfl, rfl, _, _, rfl, rfl, _, _, rfl, rfl, _, _, rfl, rfl, _, _, rfl, rfl, _, _, rfl, rfl, _, _, rfl, rfl, _, _, rfl, rfl, _, _, rfl, rfl, _, _, rfl, rfl, _, _, rfl, rfl, _, _, rfl, rfl, _, _, rfl, rfl, _, _, rfl, rfl, _, _, rfl, rfl, _, _, rfl, rfl, _, _, rfl, rfl, _, _, rfl, rfl, rfl⟩
section
variable {H : Type} {enc : TypeId × Value → H} {w : World} {base : Nat} {spare : Nat → Bool} {held : Bool} {r : Reach} {b0 : Nat} {v : Value} {d : DataW H} {p : List MemPlace}
theorem cell_i64 {n : Nat} {c : Value} {y} (h : DataW.trod enc Try.prog w base spare held n 3 [c] = some y) : ∃ x : Int, c = .int .i64 x := by
  obtain ⟨x, hx, _⟩ := DataW.trod_int Try.underlying3 h
  exact ⟨x, by simpa using hx⟩
theorem cell_str {n : Nat} {c : Value} {y} (h : DataW.trod enc Try.prog w base spare held n 9 [c] = some y) : ∃ x : ByteArray, c = .string x := by
  obtain ⟨x, hx, _⟩ := DataW.trod_string Try.underlying9 h
  exact ⟨x, by simpa using hx⟩
theorem cell_bool {n : Nat} {c : Value} {y} (h : DataW.trod enc Try.prog w base spare held n 4 [c] = some y) : ∃ x : Bool, c = .bool x := by
  obtain ⟨x, hx, _⟩ := DataW.trod_bool Try.underlying4 h
  exact ⟨x, by simpa using hx⟩
theorem list3 {α : Type} {l : List α} (h : l.length = 3) : ∃ a b c, l = [a, b, c] := by
  match l, h with
  | [a, b, c], _ => exact ⟨a, b, c, rfl⟩
theorem list21 {α : Type} {l : List α} (h : l.length = 21) : ∃ a0 a1 a2 a3 a4 a5 a6 a7 a8 a9 a10 a11 a12 a13 a14 a15 a16 a17 a18 a19 a20, l = [a0, a1, a2, a3, a4, a5, a6, a7, a8, a9, a10, a11, a12, a13, a14, a15, a16, a17, a18, a19, a20] := by
  match l, h with
  | [a0, a1, a2, a3, a4, a5, a6, a7, a8, a9, a10, a11, a12, a13, a14, a15, a16, a17, a18, a19, a20], _ => exact ⟨a0, a1, a2, a3, a4, a5, a6, a7, a8, a9, a10, a11, a12, a13, a14, a15, a16, a17, a18, a19, a20, rfl⟩
theorem open_rng (hv : Value.okWide Try.prog w r b0 33 v) (h : DataW.Trod enc Try.prog w base spare held 33 v d p) : ∃ x : Rng, v = x.V := by
  obtain ⟨cs, rfl, hl, hf⟩ := open_fields Try.underlying33 (by kernel_rfl) hv h
  obtain ⟨a, b, c, rfl⟩ := list3 (hl.trans (by kernel_rfl))
  obtain ⟨_, _, h0⟩ := hf 0 _ a rfl rfl
  obtain ⟨_, _, h1⟩ := hf 1 _ b rfl rfl
  obtain ⟨_, _, h2⟩ := hf 2 _ c rfl rfl
  obtain ⟨lo, rfl⟩ := cell_str h0
  obtain ⟨hi, rfl⟩ := cell_str h1
  obtain ⟨e, rfl⟩ := cell_bool h2
  exact ⟨⟨lo, hi, e⟩, rfl⟩
theorem open_ds (hv : Value.okWide Try.prog w r b0 41 v) (h : DataW.Trod enc Try.prog w base spare held 41 v d p) : ∃ x : DS, v = x.V := by
  obtain ⟨cs, rfl, hl, hf⟩ := open_fields Try.underlying41 (by kernel_rfl) hv h
  obtain ⟨a0, a1, a2, a3, a4, a5, a6, a7, a8, a9, a10, a11, a12, a13, a14, a15, a16, a17, a18, a19, a20, rfl⟩ := list21 (hl.trans (by kernel_rfl))
  obtain ⟨_, _, h0⟩ := hf 0 _ a0 rfl rfl
  obtain ⟨_, _, h1⟩ := hf 1 _ a1 rfl rfl
  obtain ⟨_, _, h2⟩ := hf 2 _ a2 rfl rfl
  obtain ⟨_, _, h3⟩ := hf 3 _ a3 rfl rfl
  obtain ⟨_, _, h4⟩ := hf 4 _ a4 rfl rfl
  obtain ⟨_, _, h5⟩ := hf 5 _ a5 rfl rfl
  obtain ⟨_, _, h6⟩ := hf 6 _ a6 rfl rfl
  obtain ⟨_, _, h7⟩ := hf 7 _ a7 rfl rfl
  obtain ⟨_, _, h8⟩ := hf 8 _ a8 rfl rfl
  obtain ⟨_, _, h9⟩ := hf 9 _ a9 rfl rfl
  obtain ⟨_, _, h10⟩ := hf 10 _ a10 rfl rfl
  obtain ⟨_, _, h11⟩ := hf 11 _ a11 rfl rfl
  obtain ⟨_, _, h12⟩ := hf 12 _ a12 rfl rfl
  obtain ⟨_, _, h13⟩ := hf 13 _ a13 rfl rfl
  obtain ⟨_, _, h14⟩ := hf 14 _ a14 rfl rfl
  obtain ⟨_, _, h15⟩ := hf 15 _ a15 rfl rfl
  obtain ⟨_, _, h16⟩ := hf 16 _ a16 rfl rfl
  obtain ⟨_, _, h17⟩ := hf 17 _ a17 rfl rfl
  obtain ⟨_, _, h18⟩ := hf 18 _ a18 rfl rfl
  obtain ⟨_, _, h19⟩ := hf 19 _ a19 rfl rfl
  obtain ⟨_, _, h20⟩ := hf 20 _ a20 rfl rfl
  obtain ⟨x0, rfl⟩ := cell_i64 h0
  obtain ⟨x1, rfl⟩ := cell_i64 h1
  obtain ⟨x2, rfl⟩ := cell_i64 h2
  obtain ⟨x3, rfl⟩ := cell_i64 h3
  obtain ⟨x4, rfl⟩ := cell_i64 h4
  obtain ⟨x5, rfl⟩ := cell_i64 h5
  obtain ⟨x6, rfl⟩ := cell_i64 h6
  obtain ⟨x7, rfl⟩ := cell_i64 h7
  obtain ⟨x8, rfl⟩ := cell_i64 h8
  obtain ⟨x9, rfl⟩ := cell_i64 h9
  obtain ⟨x10, rfl⟩ := cell_i64 h10
  obtain ⟨x11, rfl⟩ := cell_i64 h11
  obtain ⟨x12, rfl⟩ := cell_i64 h12
  obtain ⟨x13, rfl⟩ := cell_i64 h13
  obtain ⟨x14, rfl⟩ := cell_bool h14
  obtain ⟨x15, rfl⟩ := cell_i64 h15
  obtain ⟨x16, rfl⟩ := cell_str h16
  obtain ⟨x17, rfl⟩ := cell_str h17
  obtain ⟨x18, rfl⟩ := cell_i64 h18
  obtain ⟨x19, rfl⟩ := cell_i64 h19
  obtain ⟨x20, rfl⟩ := cell_bool h20
  exact ⟨⟨x0, x1, x2, x3, x4, x5, x6, x7, x8, x9, x10, x11, x12, x13, x14, x15, x16, x17, x18, x19, x20⟩, rfl⟩
end
end Go.Proofs.Ytljokmmgkecjbaa
