/- Lemmas for the claim's theorem. -/
import Derived.Test.YtljokmmgkecjbaaQc
import Derived.Test.YtljokmmgkecjbaaQb
set_option linter.unusedVariables false
set_option linter.unusedSimpArgs false
set_option maxRecDepth 100000
namespace Go.Proofs.Ytljokmmgkecjbaa
open Go Go.AM

/-! a lock -/
structure Lk where
  u : Int
  i : Int
  lo : ByteArray
  hi : ByteArray
  e : Bool
  x : Bool
def Lk.rg (l : Lk) : Rng := ⟨l.lo, l.hi, l.e⟩
def Lk.S (l : Lk) : List Sc := [.int false .i64 l.u, .int false .i64 l.i, .str l.lo, .str l.hi, .bool l.e, .bool l.x]
def Lk.A (l : Lk) : AVal := .agg [.int false .i64 l.u, .int false .i64 l.i, .str l.lo, .str l.hi, .bool l.e, .bool l.x]
def lk0 : Lk := ⟨0, 0, ByteArray.empty, ByteArray.empty, false, false⟩
noncomputable abbrev lockK : Kind where
  T := Lk
  d := lk0
  sz := 6
  elem := 58
  enc l := [.int .i64 l.u, .int .i64 l.i, .string l.lo, .string l.hi, .bool l.e, .bool l.x]
  encA l := [.int false .i64 l.u, .int false .i64 l.i, .str l.lo, .str l.hi, .bool l.e, .bool l.x]
  dec := fun
    | [.int _ .i64 u, .int _ .i64 i, .str lo, .str hi, e, x] => match boolOf e, boolOf x with
      | some e, some x => some ⟨u, i, lo, hi, e, x⟩
      | _, _ => none
    | _ => none
  pos := by decide
  len := fun _ => rfl
  one := fun r u hu => by simp at hu; rcases hu with rfl | rfl | rfl | rfl | rfl | rfl <;> rfl
  rep := fun env x vs => ⟨fun ⟨v, vs', h1, h2, v2, vs2, h3, h4, v3, vs3, h5, h6, v4, vs4, h7, h8, v5, vs5, h9, h10, v6, vs6, h11, h12, h13⟩ => by
    cases h13; cases h12; subst h11; cases h10; subst h9; cases h8; subst h7; cases h6; subst h5; cases h4; subst h3; cases h2; exact h1,
    fun h => ⟨_, _, h, rfl, _, _, rfl, rfl, _, _, rfl, rfl, _, _, rfl, rfl, _, _, rfl, rfl, _, _, rfl, rfl, rfl⟩⟩
  dec_ok := fun cs x h env vs hr => by
    split at h
    · split at h
      · rename_i he hx
        cases h
        obtain ⟨v, vs', h1, h2, v2, vs2, h3, h4, v3, vs3, h5, h6, v4, vs4, h7, h8, v5, vs5, h9, h10, v6, vs6, h11, h12, h13⟩ := hr
        cases h13; cases boolOf_rep hx h12; subst h11; cases boolOf_rep he h10; subst h9; cases h8; subst h7; cases h6; subst h5; cases h4; subst h3; cases h2; exact h1
      · cases h
    · cases h
def numB (n : Int) : Bool := decide (1 ≤ n) && decide (n ≤ 1099511627776)
def validL (l : Lk) : Bool := numB l.u && numB l.i && decide ((l.lo.size : Int) ≤ 32) && decide ((l.hi.size : Int) ≤ 32) && !emptyB l.rg
def confL (a b : Lk) : Bool := (a.u != b.u) && (a.i == b.i) && (a.x || b.x) && !emptyB (meetR a.rg b.rg)
noncomputable def qt46a : QTab := fun f args => match f, args with
  | 31, [.agg [.str lo, .str hi, .bool e], .agg [.str lo2, .str hi2, .bool e2]] => some (none, .sc (.bool (!emptyB (meetR ⟨lo, hi, e⟩ ⟨lo2, hi2, e2⟩))))
  | 42, [.agg [.str lo, .str hi, .bool e], .agg [.str lo2, .str hi2, .bool e2]] => some (none, .sc (.bool (!emptyB (meetR ⟨lo, hi, e⟩ ⟨lo2, hi2, e2⟩))))
  | 43, [.agg [.str lo, .str hi, .bool e], .agg [.str lo2, .str hi2, .bool e2]] => some (none, .sc (.bool (coversB ⟨lo, hi, e⟩ ⟨lo2, hi2, e2⟩)))
  | 44, [.agg [.str lo, .str hi, .bool e], .agg [.str lo2, .str hi2, .bool e2]] => some (none, .sc (.bool (coversB ⟨lo, hi, e⟩ ⟨lo2, hi2, e2⟩)))
  | f, args => qt3 f args
theorem qt46aok : qt46a.Ok Try.prog := by
  intro f args p r h hp m k hk
  unfold qt46a at h
  split at h
  · cases h; exact overlap_ok ⟨_, _, _⟩ ⟨_, _, _⟩ hk
  · cases h; exact roverlap_ok ⟨_, _, _⟩ ⟨_, _, _⟩ hk
  · cases h; exact covers_ok ⟨_, _, _⟩ ⟨_, _, _⟩ hk
  · cases h; exact rcovers_ok ⟨_, _, _⟩ ⟨_, _, _⟩ hk
  · exact qt3ok f args p r h hp m k hk
noncomputable def E46a : Eng := mkEng Try.prog kindsT3 eqT qt46a sp3b qs3b
theorem E46aok : E46a.Ok := mkEng_ok mixedT qt46aok sp3b_ok qs3b_ok eqT_ok
theorem numB_ok (n : Int) {m K} (hk : K (.sc (.bool (numB n))) m) : TripleF Try.prog 94 [.sc (.int false .i64 n)] m K := by
  refine pure_of_awp (R := fun r' => r' = .sc (.bool (numB n))) E46aok Try.func94 rfl (by kernel_rfl) rfl ?_ (fun r h => h ▸ hk)
  clear hk
  repeat' ((conv => whnf) <;> first | refine Br.mk (fun _ => ?_) (fun _ => ?_))
  all_goals (try (conv => whnf))
  all_goals (refine congrArg (fun b => AVal.sc (.bool b)) ?_; simp_all [numB] <;> omega)
theorem conf_ok (a b : Lk) {m K} (hk : K (.sc (.bool (confL a b))) m) : TripleF Try.prog 54 [a.A, b.A] m K := by
  obtain ⟨u, i, lo, hi, e, x⟩ := a
  obtain ⟨u2, i2, lo2, hi2, e2, x2⟩ := b
  refine pure_of_awp (R := fun r' => r' = .sc (.bool (confL ⟨u, i, lo, hi, e, x⟩ ⟨u2, i2, lo2, hi2, e2, x2⟩))) E46aok Try.func54 rfl (by kernel_rfl) rfl ?_ (fun r h => h ▸ hk)
  clear hk
  simp only [Lk.A]
  repeat' ((conv => whnf) <;> first | refine Br.mk (fun _ => ?_) (fun _ => ?_))
  all_goals (try (conv => whnf))
  all_goals (refine congrArg (fun b => AVal.sc (.bool b)) ?_; simp_all [confL, Lk.rg])
theorem rconf_ok (a b : Lk) {m K} (hk : K (.sc (.bool (confL a b))) m) : TripleF Try.prog 55 [a.A, b.A] m K := by
  obtain ⟨u, i, lo, hi, e, x⟩ := a
  obtain ⟨u2, i2, lo2, hi2, e2, x2⟩ := b
  refine pure_of_awp (R := fun r' => r' = .sc (.bool (confL ⟨u, i, lo, hi, e, x⟩ ⟨u2, i2, lo2, hi2, e2, x2⟩))) E46aok Try.func55 rfl (by kernel_rfl) rfl ?_ (fun r h => h ▸ hk)
  clear hk
  simp only [Lk.A]
  repeat' ((conv => whnf) <;> first | refine Br.mk (fun _ => ?_) (fun _ => ?_))
  all_goals (try (conv => whnf))
  all_goals (refine congrArg (fun b => AVal.sc (.bool b)) ?_; simp_all [confL, Lk.rg])
noncomputable def qt46b : QTab := fun f args => match f, args with
  | 94, [.sc (.int _ .i64 n)] => some (none, .sc (.bool (numB n)))
  | 54, [.agg [.int _ .i64 u, .int _ .i64 i, .str lo, .str hi, .bool e, .bool x], .agg [.int _ .i64 u2, .int _ .i64 i2, .str lo2, .str hi2, .bool e2, .bool x2]] => some (none, .sc (.bool (confL ⟨u, i, lo, hi, e, x⟩ ⟨u2, i2, lo2, hi2, e2, x2⟩)))
  | 55, [.agg [.int _ .i64 u, .int _ .i64 i, .str lo, .str hi, .bool e, .bool x], .agg [.int _ .i64 u2, .int _ .i64 i2, .str lo2, .str hi2, .bool e2, .bool x2]] => some (none, .sc (.bool (confL ⟨u, i, lo, hi, e, x⟩ ⟨u2, i2, lo2, hi2, e2, x2⟩)))
  | f, args => qt46a f args
theorem qt46bok : qt46b.Ok Try.prog := by
  intro f args p r h hp m k hk
  unfold qt46b at h
  split at h
  · cases h; exact TripleF.std (numB_ok _ hk)
  · cases h; exact TripleF.std (conf_ok ⟨_, _, _, _, _, _⟩ ⟨_, _, _, _, _, _⟩ hk)
  · cases h; exact TripleF.std (rconf_ok ⟨_, _, _, _, _, _⟩ ⟨_, _, _, _, _, _⟩ hk)
  · exact qt46aok f args p r h hp m k hk
noncomputable def E46b : Eng := mkEng Try.prog kindsT3 eqT qt46b sp3b qs3b
theorem E46bok : E46b.Ok := mkEng_ok mixedT qt46bok sp3b_ok qs3b_ok eqT_ok
theorem valid_l (a : Lk) {m K} (hk : K (.sc (.bool (validL a))) m) : TripleF Try.prog 56 [a.A] m K := by
  obtain ⟨u, i, lo, hi, e, x⟩ := a
  refine pure_of_awp (R := fun r' => r' = .sc (.bool (validL ⟨u, i, lo, hi, e, x⟩))) E46bok Try.func56 rfl (by kernel_rfl) rfl ?_ (fun r h => h ▸ hk)
  clear hk
  simp only [Lk.A]
  repeat' ((conv => whnf) <;> first | refine Br.mk (fun _ => ?_) (fun _ => ?_))
  all_goals (try (conv => whnf))
  all_goals (refine congrArg (fun b => AVal.sc (.bool b)) ?_; simp_all [validL, Lk.rg] <;> (intros; omega))
theorem rvalid_l (a : Lk) {m K} (hk : K (.sc (.bool (validL a))) m) : TripleF Try.prog 57 [a.A] m K := by
  obtain ⟨u, i, lo, hi, e, x⟩ := a
  refine pure_of_awp (R := fun r' => r' = .sc (.bool (validL ⟨u, i, lo, hi, e, x⟩))) E46bok Try.func57 rfl (by kernel_rfl) rfl ?_ (fun r h => h ▸ hk)
  clear hk
  simp only [Lk.A]
  repeat' ((conv => whnf) <;> first | refine Br.mk (fun _ => ?_) (fun _ => ?_))
  all_goals (try (conv => whnf))
  all_goals (refine congrArg (fun b => AVal.sc (.bool b)) ?_; simp_all [validL, numB, Lk.rg])
  all_goals (try (intros; omega))
end Go.Proofs.Ytljokmmgkecjbaa

namespace Go.Proofs.Ytljokmmgkecjbaa
open Go Go.AM
noncomputable def kinds46 (e : TypeId) : Option Kind := match e with
  | 3 => some (intK 3 .i64)
  | 9 => some (strK 9)
  | 33 => some rngK
  | 58 => some lockK
  | _ => none
noncomputable def qt46c : QTab := fun f args => match f, args with
  | 56, [.agg [.int _ .i64 u, .int _ .i64 i, .str lo, .str hi, .bool e, .bool x]] => some (none, .sc (.bool (validL ⟨u, i, lo, hi, e, x⟩)))
  | 57, [.agg [.int _ .i64 u, .int _ .i64 i, .str lo, .str hi, .bool e, .bool x]] => some (none, .sc (.bool (validL ⟨u, i, lo, hi, e, x⟩)))
  | f, args => qt46b f args
theorem qt46cok : qt46c.Ok Try.prog := by
  intro f args p r h hp m k hk
  unfold qt46c at h
  split at h
  · cases h; exact TripleF.std (valid_l ⟨_, _, _, _, _, _⟩ hk)
  · cases h; exact TripleF.std (rvalid_l ⟨_, _, _, _, _, _⟩ hk)
  · exact qt46bok f args p r h hp m k hk
noncomputable def E46c : Eng := mkEng Try.prog kinds46 eqT qt46c sp3b qs3b
theorem E46cok : E46c.Ok := mkEng_ok mixedT qt46cok sp3b_ok qs3b_ok eqT_ok

/-! the predicates -/
def ofB (unit : Int) (l : Lk) : Bool := l.u == unit
def covB (l h : Lk) : Bool := (h.u == l.u) && (h.i == l.i) && (h.x || !l.x) && coversB h.rg l.rg
def PredC (c : FuncId) (T : TypeId) (cells : List Sc) (p : Lk → Bool) : Prop := ∀ l : Lk, TripleF Try.prog c [l.A, .sc (.fld 0 0)] [.box T cells] fun r m' => r = .sc (.bool (p l)) ∧ m' = [.box T cells]
theorem of_pred (unit : Int) : PredC 128 3 [.int false .i64 unit] (ofB unit) := by
  intro l
  obtain ⟨u, i, lo, hi, e, x⟩ := l
  refine triple_of_awp E46cok Try.func128 rfl (by kernel_rfl) ?_
  simp only [Lk.A]
  conv => whnf
  exact FinF.mk _ (.sc (.bool (u == unit))) [.box 3 [.int false .i64 unit]] [] rfl rfl rfl ⟨⟨rfl, rfl⟩, trivial⟩ rfl (Nat.le_refl _) ⟨rfl, rfl⟩
theorem waiting_pred (unit : Int) : PredC 125 3 [.int false .i64 unit] (ofB unit) := by
  intro l
  obtain ⟨u, i, lo, hi, e, x⟩ := l
  refine triple_of_awp E46cok Try.func125 rfl (by kernel_rfl) ?_
  simp only [Lk.A]
  conv => whnf
  exact FinF.mk _ (.sc (.bool (u == unit))) [.box 3 [.int false .i64 unit]] [] rfl rfl rfl ⟨⟨rfl, rfl⟩, trivial⟩ rfl (Nat.le_refl _) ⟨rfl, rfl⟩
theorem conf_pred (x : Lk) : PredC 120 58 x.S (fun y => confL y x) := by
  intro l
  obtain ⟨u, i, lo, hi, e, x'⟩ := l
  obtain ⟨u2, i2, lo2, hi2, e2, x2⟩ := x
  refine triple_of_awp E46cok Try.func120 rfl (by kernel_rfl) ?_
  simp only [Lk.A, Lk.S]
  conv => whnf
  exact FinF.mk _ (.sc (.bool (confL ⟨u, i, lo, hi, e, x'⟩ ⟨u2, i2, lo2, hi2, e2, x2⟩))) [.box 58 (Lk.S ⟨u2, i2, lo2, hi2, e2, x2⟩)] [] rfl rfl rfl ⟨⟨rfl, rfl⟩, trivial⟩ rfl (Nat.le_refl _) ⟨rfl, rfl⟩
theorem cov_pred (x : Lk) : PredC 126 58 x.S (covB x) := by
  intro l
  obtain ⟨u, i, lo, hi, e, x'⟩ := l
  obtain ⟨u2, i2, lo2, hi2, e2, x2⟩ := x
  refine triple_of_awp E46cok Try.func126 rfl (by kernel_rfl) ?_
  simp only [Lk.A, Lk.S]
  repeat' ((conv => whnf) <;> first | refine Br.mk (fun _ => ?_) (fun _ => ?_))
  all_goals (conv => whnf)
  all_goals refine FinF.mk _ (.sc (.bool (covB ⟨u2, i2, lo2, hi2, e2, x2⟩ ⟨u, i, lo, hi, e, x'⟩))) [.box 58 (Lk.S ⟨u2, i2, lo2, hi2, e2, x2⟩)] [] rfl rfl ?_ ⟨⟨rfl, rfl⟩, trivial⟩ rfl (Nat.le_refl _) ⟨rfl, rfl⟩
  all_goals (conv => lhs; whnf)
  all_goals (refine congrArg (fun b => AVal.sc (.bool b)) ?_; simp_all [covB, Lk.rg])
end Go.Proofs.Ytljokmmgkecjbaa

namespace Go.Proofs.Ytljokmmgkecjbaa
open Go Go.AM
def predS (p : Lk → Bool) (c : FuncId) (T : TypeId) (cells : List Sc) (f : FuncId) (args : List AVal) (m : List AM.Item) (k : AVal → List AM.Item → Prop) : Prop := match args with
  | [.agg [.int _ .i64 u, .int _ .i64 i, .str lo, .str hi, .bool e, .bool x], .sc (.fld t 0)] => Need (f = c) (Need (nth? m t = some (.box T cells)) (k (.sc (.bool (p ⟨u, i, lo, hi, e, x⟩))) m))
  | _ => False
theorem predS_ok {p : Lk → Bool} {c : FuncId} {T : TypeId} {cells : List Sc} (hp : PredC c T cells p) (hc : cells.all (Sc.below 0) = true) : ∀ f args m k, predS p c T cells f args m k → TripleF Try.prog f args m k := by
  intro f args m k h
  unfold predS at h
  split at h
  · rename_i _ u _ i lo hi e x t
    obtain ⟨rfl, hm, h⟩ := h
    rw [nth?_eq] at hm
    have hlt := (List.getElem?_eq_some_iff.1 hm).1
    have hn : nth m t .gone = .box T cells := by rw [nth_eq, List.getD_eq_getElem?_getD, hm]; rfl
    refine TripleF.std (frame_same (hp ⟨u, i, lo, hi, e, x⟩) rfl [t] rfl rfl ⟨?_, ?_, trivial⟩ rfl (by simp [Nat.blt_eq, hlt]) h)
    · rw [List.all_eq_true] at hc ⊢
      intro y hy
      have := hc y hy
      cases y with
      | fn f caps => cases caps with
        | nil => rfl
        | cons p ps => simp [Sc.below] at this
      | h t => simp [Sc.below] at this
      | fld t o => simp [Sc.below] at this
      | elt _ _ _ _ => simp [Sc.below] at this
      | bsl _ _ _ => simp [Sc.below] at this
      | sub _ _ _ _ => simp [Sc.below] at this
      | tail _ _ _ _ => simp [Sc.below] at this
      | _ => rfl
    · rw [hn, ScL.ren_below hc]
  · exact h.elim
noncomputable def Ep (p : Lk → Bool) (c : FuncId) (T : TypeId) (cells : List Sc) : Eng := mkEng Try.prog kinds46 noEq noQT (predS p c T cells) noQ
theorem Ep_ok {p : Lk → Bool} {c : FuncId} {T : TypeId} {cells : List Sc} (hp : PredC c T cells p) (hc : cells.all (Sc.below 0) = true) : (Ep p c T cells).Ok :=
  mkEng_ok mixedT (fun _ _ _ _ h => by cases h) (predS_ok hp hc) (fun _ _ _ _ _ h => by cases h) (fun _ _ _ _ h => by cases h)
def idxOf (p : Lk → Bool) (xs : List Lk) : Int := if xs.any p = true then (xs.findIdx p : Int) else -1
theorem idx_found {p : Lk → Bool} {xs : List Lk} {k : Nat} (hk : k < xs.length) (h1 : (xs.take k).any p = false) (h2 : p (xs.getD k lk0) = true) : idxOf p xs = k := by
  have hg : xs.getD k lk0 = xs[k] := by rw [List.getD_eq_getElem?_getD, List.getElem?_eq_getElem hk]; rfl
  rw [hg] at h2
  have hany : xs.any p = true := List.any_eq_true.2 ⟨_, List.getElem_mem hk, h2⟩
  rw [idxOf, if_pos hany]
  congr 1
  rw [List.findIdx_eq hk]
  refine ⟨h2, fun j hj => ?_⟩
  rw [List.any_eq_false] at h1
  have := h1 (xs[j]'(by omega)) (by rw [List.mem_take_iff_getElem]; exact ⟨j, by omega, rfl⟩)
  simpa using this
theorem idx_none {p : Lk → Bool} {xs : List Lk} (h1 : xs.any p = false) : idxOf p xs = -1 := by rw [idxOf, if_neg (by rw [h1]; simp)]
theorem any_snoc {p : Lk → Bool} {xs : List Lk} {k : Nat} (hk : k < xs.length) : (xs.take (k + 1)).any p = ((xs.take k).any p || p (xs.getD k lk0)) := by
  rw [List.take_succ_eq_append_getElem hk, List.any_append, List.getD_eq_getElem?_getD, List.getElem?_eq_getElem hk]; simp
theorem indexFunc_base {p : Lk → Bool} {c : FuncId} {T : TypeId} {cells : List Sc} (hp : PredC c T cells p) (hc : cells.all (Sc.below 0) = true) (hc2 : cells.all (Sc.below 2) = true) (xs : List Lk) :
    TripleF Try.prog 124 [.sc (.h 0), .sc (.fn c [(1, 0)])] [.ro lockK xs, .box T cells] fun r m' => r = .sc (.int false .i64 (idxOf p xs)) ∧ m' = [.ro lockK xs, .box T cells] := by
  refine triple_of_awp (Ep_ok hp hc) Try.func124 rfl (by kernel_rfl) ?_
  conv => whnf
  refine Know.mk fun hlen => ?_
  have hlen : xs.length ≤ 9223372036854775807 := hlen
  conv => whnf
  refine LoopF.inv Nat (fun k => k ≤ xs.length ∧ (xs.take k).any p = false) (fun k => [(8, .sc (.int false .i64 (k : Int)))]) (fun k => xs.length - k) (fun _ => [AM.Item.ro lockK xs, .box T cells]) (fun _ => Nat.le_refl _) 0 []
    ⟨Nat.zero_le _, rfl⟩ ⟨⟨⟨rfl, rfl⟩, trivial⟩, ⟨rfl, ⟨hc2, by rw [ScL.ren_below hc]; rfl⟩, trivial⟩, rfl⟩ ?_
  rintro k ⟨h1, h2⟩
  conv => whnf
  refine Br.mk (fun c1 => ?_) (fun c1 => ?_)
  · have c1 : (k : Int) < (xs.length : Nat) := of_decide_eq_true c1
    have hk : k < xs.length := by omega
    refine Need.mk (show 0 ≤ (k : Int) ∧ (k : Int) < (xs.length : Nat) from ⟨by omega, by omega⟩) ?_
    conv => whnf
    refine Need.mk rfl (Need.mk rfl ?_)
    refine Br.mk (fun c2 => ?_) (fun c2 => ?_)
    · have c2 : p (nth xs k lk0) = true := c2
      rw [nth_eq] at c2
      conv => whnf
      refine FinF.mk _ (.sc (.int false .i64 (idxOf p xs))) [.ro lockK xs, .box T cells] [] rfl rfl ?_ ⟨rfl, ⟨hc2, by rw [ScL.ren_below hc]; rfl⟩, trivial⟩ rfl (Nat.le_refl _) ⟨rfl, rfl⟩
      rw [idx_found hk h2 c2]; rfl
    · have c2 : p (nth xs k lk0) = false := c2
      rw [nth_eq] at c2
      refine ⟨k + 1, [], ⟨by omega, by rw [any_snoc hk, h2, c2]; rfl⟩, by omega, ⟨⟨⟨rfl, ?_⟩, trivial⟩, ⟨rfl, ⟨hc2, by rw [ScL.ren_below hc]; rfl⟩, trivial⟩, rfl⟩, rfl⟩
      show AVal.sc (.int false .i64 (IntKind.i64.wrap ((k : Int) + 1))) = .sc (.int false .i64 ((k + 1 : Nat) : Int))
      rw [wrapI (by omega) (by omega)]; rfl
  · have c1 : ¬ (k : Int) < (xs.length : Nat) := of_decide_eq_false c1
    conv => whnf
    rw [List.take_of_length_le (by omega)] at h2
    refine FinF.mk _ (.sc (.int false .i64 (idxOf p xs))) [.ro lockK xs, .box T cells] [] rfl rfl ?_ ⟨rfl, ⟨hc2, by rw [ScL.ren_below hc]; rfl⟩, trivial⟩ rfl (Nat.le_refl _) ⟨rfl, rfl⟩
    rw [idx_none h2]; rfl
theorem idx_ge {p : Lk → Bool} {xs : List Lk} : decide (idxOf p xs ≥ 0) = xs.any p := by
  unfold idxOf
  cases h : xs.any p <;> simp
theorem below_up {n : Nat} {cells : List Sc} (hc : cells.all (Sc.below 0) = true) : cells.all (Sc.below n) = true := by
  rw [List.all_eq_true] at hc ⊢
  intro y hy
  have := hc y hy
  cases y with
  | fn f caps => cases caps with
    | nil => rfl
    | cons p ps => simp [Sc.below] at this
  | h t => simp [Sc.below] at this
  | fld t o => simp [Sc.below] at this
  | elt _ _ _ _ => simp [Sc.below] at this
  | bsl _ _ _ => simp [Sc.below] at this
  | sub _ _ _ _ => simp [Sc.below] at this
  | tail _ _ _ _ => simp [Sc.below] at this
  | _ => rfl
/-- the search, in a caller's memory -/
def idxS (p : Lk → Bool) (c : FuncId) (T : TypeId) (cells : List Sc) (g : List Lk → AVal) (args : List AVal) (m : List AM.Item) (k : AVal → List AM.Item → Prop) : Prop := match args with
  | [.sc (.h t), .sc (.fn c' [(b, 0)])] => Need (c' = c) (Need (nth? m b = some (.box T cells)) (match (nth m t .gone).row with
    | some ⟨K, xs⟩ => Cast (K1 := lockK) K xs fun xs => k (g xs) m
    | none => False))
  | _ => False
theorem idxS_fit {p : Lk → Bool} {c : FuncId} {T : TypeId} {cells : List Sc} {g : List Lk → AVal} (hg : ∀ xs, (g xs).below 0 = true) {f : FuncId}
    (hb : ∀ xs, TripleF Try.prog f [.sc (.h 0), .sc (.fn c [(1, 0)])] [.ro lockK xs, .box T cells] fun r m' => r = g xs ∧ m' = [.ro lockK xs, .box T cells]) (hc : cells.all (Sc.below 0) = true)
    {args : List AVal} {m : List AM.Item} {k : AVal → List AM.Item → Prop} (h : idxS p c T cells g args m k) : TripleF Try.prog f args m k := by
  unfold idxS at h
  split at h
  · rename_i t c' b
    obtain ⟨rfl, hm, h⟩ := h
    rw [nth?_eq] at hm
    have hlt := (List.getElem?_eq_some_iff.1 hm).1
    have hn : nth m b .gone = .box T cells := by rw [nth_eq, List.getD_eq_getElem?_getD, hm]; rfl
    split at h
    · rename_i K xs hrow
      obtain ⟨ys, _, h⟩ := h
      have htl : t < m.length := by
        have : m[t]? = some (nth m t .gone) := nth_some rfl (by intro e; rw [e] at hrow; cases hrow)
        exact (List.getElem?_eq_some_iff.1 this).1
      have hne : t ≠ b := by
        intro e; subst e; rw [hn] at hrow; cases hrow
      refine frame_same (hb ys) (hg ys) [t, b] rfl rfl ⟨⟨_, _, hrow, rfl, rfl⟩, below_up hc, ?_, trivial⟩ ?_ (by simp [Nat.blt_eq, htl, hlt]) h
      · rw [hn, ScL.ren_below hc]
      · simp only [apartP, apart1, Bool.and_true, Bool.or_eq_true, Bool.not_eq_true']
        left; left; left
        cases hbe : Nat.beq t b with
        | false => rfl
        | true => exact absurd (Nat.eq_of_beq_eq_true hbe) hne
    · exact h.elim
  · exact h.elim
/-- ContainsFunc -/
noncomputable def Eq9 (p : Lk → Bool) (c : FuncId) (T : TypeId) (cells : List Sc) : Eng := mkEng Try.prog kinds46 noEq noQT (fun f args m k => match f with
  | 124 => idxS p c T cells (fun xs => .sc (.int false .i64 (idxOf p xs))) args m k
  | _ => False) noQ
theorem Eq9_ok {p : Lk → Bool} {c : FuncId} {T : TypeId} {cells : List Sc} (hp : PredC c T cells p) (hc : cells.all (Sc.below 0) = true) : (Eq9 p c T cells).Ok := by
  refine mkEng_ok mixedT (fun _ _ _ _ h => by cases h) (fun f args m k h => ?_) (fun _ _ _ _ _ h => by cases h) (fun _ _ _ _ h => by cases h)
  split at h
  · exact idxS_fit (fun _ => rfl) (indexFunc_base hp hc (below_up hc)) hc h
  · exact h.elim
theorem containsFunc_base {p : Lk → Bool} {c : FuncId} {T : TypeId} {cells : List Sc} (hp : PredC c T cells p) (hc : cells.all (Sc.below 0) = true) (xs : List Lk) :
    TripleF Try.prog 119 [.sc (.h 0), .sc (.fn c [(1, 0)])] [.ro lockK xs, .box T cells] fun r m' => r = .sc (.bool (xs.any p)) ∧ m' = [.ro lockK xs, .box T cells] := by
  refine triple_of_awp (Eq9_ok hp hc) Try.func119 rfl (by kernel_rfl) ?_
  conv => whnf
  refine Need.mk rfl (Need.mk rfl ?_)
  conv => whnf
  refine Cast.mk _ _ ?_
  conv => whnf
  refine FinF.mk _ (.sc (.bool (xs.any p))) [.ro lockK xs, .box T cells] [] rfl rfl ?_ ⟨rfl, ⟨below_up hc, by rw [ScL.ren_below hc]; rfl⟩, trivial⟩ rfl (Nat.le_refl _) ⟨rfl, rfl⟩
  conv => lhs; whnf
  exact congrArg (fun b => AVal.sc (.bool b)) idx_ge
end Go.Proofs.Ytljokmmgkecjbaa

namespace Go.Proofs.Ytljokmmgkecjbaa
open Go Go.AM
def conflB (l : List Lk) (x : Lk) : Bool := l.any fun y => confL y x
noncomputable def E89 (x : Lk) : Eng := mkEng Try.prog kinds46 noEq noQT (fun f args m k => match f with
  | 119 => idxS (fun y => confL y x) 120 58 x.S (fun xs => .sc (.bool (conflB xs x))) args m k
  | _ => False) noQ
theorem E89_ok (x : Lk) : (E89 x).Ok := by
  refine mkEng_ok mixedT (fun _ _ _ _ h => by cases h) (fun f args m k h => ?_) (fun _ _ _ _ _ h => by cases h) (fun _ _ _ _ h => by cases h)
  split at h
  · exact idxS_fit (fun _ => rfl) (containsFunc_base (conf_pred x) rfl) rfl h
  · exact h.elim
theorem conflicts_base (xs : List Lk) (x : Lk) : TripleF Try.prog 89 [.sc (.h 0), x.A] [.ro lockK xs] (fun r _ => r = .sc (.bool (conflB xs x)) ∧ r.below 0 = true) := by
  refine base_of_awp (R := fun r => r = .sc (.bool (conflB xs x))) (E89_ok x) Try.func89 rfl (by kernel_rfl) ?_
  obtain ⟨u, i, lo, hi, e, x'⟩ := x
  simp only [Lk.A]
  conv => whnf
  refine Need.mk rfl (Need.mk rfl ?_)
  conv => whnf
  refine Cast.mk _ _ ?_
  conv => whnf
/-! a manager in memory -/
noncomputable abbrev mgr (held queue : List Lk) : List AM.Item := [.box 112 [.h 1, .h 2], .slc lockK held, .slc lockK queue]
noncomputable def E93 (unit : Int) : Eng := mkEng Try.prog kinds46 noEq noQT (fun f args m k => match f with
  | 124 => idxS (ofB unit) 125 3 [.int false .i64 unit] (fun xs => .sc (.int false .i64 (idxOf (ofB unit) xs))) args m k
  | _ => False) noQ
theorem E93_ok (unit : Int) : (E93 unit).Ok := by
  refine mkEng_ok mixedT (fun _ _ _ _ h => by cases h) (fun f args m k h => ?_) (fun _ _ _ _ _ h => by cases h) (fun _ _ _ _ h => by cases h)
  split at h
  · exact idxS_fit (fun _ => rfl) (indexFunc_base (waiting_pred unit) rfl rfl) rfl h
  · exact h.elim
theorem waiting_base (held queue : List Lk) (unit : Int) : TripleF Try.prog 93 [.sc (.fld 0 0), .sc (.int false .i64 unit)] (mgr held queue) (fun r m' => r = .sc (.int false .i64 (idxOf (ofB unit) queue)) ∧ m' = mgr held queue) := by
  refine triple_of_awp (E93_ok unit) Try.func93 rfl (by kernel_rfl) ?_
  conv => whnf
  refine Need.mk rfl (Need.mk rfl ?_)
  conv => whnf
  refine Cast.mk _ _ ?_
  conv => whnf
  exact FinF.mk _ (.sc (.int false .i64 (idxOf (ofB unit) queue))) (mgr held queue) [] rfl rfl rfl ⟨⟨rfl, rfl⟩, rfl, rfl, trivial⟩ rfl (Nat.le_refl _) ⟨rfl, rfl⟩
noncomputable def E97 (x : Lk) : Eng := mkEng Try.prog kinds46 noEq noQT (fun f args m k => match f with
  | 119 => idxS (covB x) 126 58 x.S (fun xs => .sc (.bool (xs.any (covB x)))) args m k
  | _ => False) noQ
theorem E97_ok (x : Lk) : (E97 x).Ok := by
  refine mkEng_ok mixedT (fun _ _ _ _ h => by cases h) (fun f args m k h => ?_) (fun _ _ _ _ _ h => by cases h) (fun _ _ _ _ h => by cases h)
  split at h
  · exact idxS_fit (fun _ => rfl) (containsFunc_base (cov_pred x) rfl) rfl h
  · exact h.elim
theorem covered_base (held queue : List Lk) (x : Lk) : TripleF Try.prog 97 [.sc (.fld 0 0), x.A] (mgr held queue) (fun r m' => r = .sc (.bool (held.any (covB x))) ∧ m' = mgr held queue) := by
  refine triple_of_awp (E97_ok x) Try.func97 rfl (by kernel_rfl) ?_
  obtain ⟨u, i, lo, hi, e, x'⟩ := x
  simp only [Lk.A]
  conv => whnf
  refine Need.mk rfl (Need.mk rfl ?_)
  conv => whnf
  refine Cast.mk _ _ ?_
  conv => whnf
  exact FinF.mk _ (.sc (.bool (held.any (covB ⟨u, i, lo, hi, e, x'⟩)))) (mgr held queue) [] rfl rfl rfl ⟨⟨rfl, rfl⟩, rfl, rfl, trivial⟩ rfl (Nat.le_refl _) ⟨rfl, rfl⟩
/-! the locks of a unit -/
noncomputable def E62 : Eng := mkEng Try.prog kinds46 noEq noQT noSpec noQ
theorem E62_ok : E62.Ok := mkEng_ok mixedT (fun _ _ _ _ h => by cases h) (fun _ _ _ _ h => h.elim) (fun _ _ _ _ _ h => by cases h) (fun _ _ _ _ h => by cases h)
theorem filter_snoc {p : Lk → Bool} {xs : List Lk} {k : Nat} (hk : k < xs.length) : (xs.take (k + 1)).filter p = (xs.take k).filter p ++ (if p (xs.getD k lk0) = true then [xs.getD k lk0] else []) := by
  rw [List.take_succ_eq_append_getElem hk, List.filter_append, List.getD_eq_getElem?_getD, List.getElem?_eq_getElem hk]
  simp only [List.filter_cons, List.filter_nil]; rfl
theorem filter_le {p : Lk → Bool} {xs : List Lk} {k : Nat} : ((xs.take k).filter p).length ≤ xs.length := Nat.le_trans (List.length_filter_le _ _) (by rw [List.length_take]; omega)
theorem Held_base (held queue : List Lk) (unit : Int) (hb : held.length ≤ 1048576) : TripleF Try.prog 62 [.sc (.fld 0 0), .sc (.int false .i64 unit)] (mgr held queue) (fun r m' => r = .sc (.h 3) ∧ m' = mgr held queue ++ [.slc lockK (held.filter (ofB unit))]) := by
  refine triple_of_awp E62_ok Try.func62 rfl (by kernel_rfl) ?_
  conv => whnf
  refine Know.mk fun hlen => ?_
  conv => whnf
  refine LoopF.tell (.nilT 5 lockK) _ _ (And.intro rfl rfl) ?_
  refine LoopF.inv Nat (fun k => k ≤ held.length) (fun k => [(13, .sc (.int false .i64 (k : Int))), (5, .sc (.h 4))]) (fun k => held.length - k) (fun k => [.box 112 [.h 1, .h 2], .slc lockK held, .slc lockK queue, .gone, .slc lockK ((held.take k).filter (ofB unit))]) (fun _ => Nat.le_succ _) 0 [3]
    (Nat.zero_le _) ⟨⟨⟨rfl, rfl⟩, ⟨rfl, rfl⟩, trivial⟩, ⟨⟨rfl, rfl⟩, rfl, rfl, trivial, rfl, trivial⟩, rfl⟩ ?_
  rintro k h1
  conv => whnf
  have hlen : held.length ≤ 9223372036854775807 := hlen
  refine Br.mk (fun c1 => ?_) (fun c1 => ?_)
  · have c1 : (k : Int) < (held.length : Nat) := of_decide_eq_true c1
    have hk : k < held.length := by omega
    have hfs := filter_snoc (p := ofB unit) hk
    have hfl := filter_le (p := ofB unit) (xs := held) (k := k)
    refine Need.mk (show 0 ≤ (k : Int) ∧ (k : Int) < (held.length : Nat) from ⟨by omega, by omega⟩) ?_
    refine Br.mk (fun c2 => ?_) (fun c2 => ?_)
    · have c2 : ofB unit (nth held k lk0) = true := c2
      rw [nth_eq] at c2
      rw [if_pos c2] at hfs
      conv => whnf
      refine Cast.mk _ _ ?_
      conv => whnf
      refine Need.mk ?_ ?_
      · show (((held.take k).filter (ofB unit)).length + 1) * 64 ≤ 140737488355328
        omega
      refine ⟨k + 1, [7], by omega, by omega, ⟨⟨⟨rfl, ?_⟩, ⟨rfl, rfl⟩, trivial⟩, ⟨⟨rfl, rfl⟩, rfl, rfl, trivial, ?_, trivial⟩, rfl⟩, rfl⟩
      · show AVal.sc (.int false .i64 (IntKind.i64.wrap ((k : Int) + 1))) = .sc (.int false .i64 ((k + 1 : Nat) : Int))
        rw [wrapI (by omega) (by omega)]; rfl
      · rw [hfs, ← nth_eq]; rfl
    · have c2 : ofB unit (nth held k lk0) = false := c2
      rw [nth_eq] at c2
      rw [if_neg (by rw [c2]; simp), List.append_nil] at hfs
      refine ⟨k + 1, [4], by omega, by omega, ⟨⟨⟨rfl, ?_⟩, ⟨rfl, rfl⟩, trivial⟩, ⟨⟨rfl, rfl⟩, rfl, rfl, trivial, ?_, trivial⟩, rfl⟩, rfl⟩
      · show AVal.sc (.int false .i64 (IntKind.i64.wrap ((k : Int) + 1))) = .sc (.int false .i64 ((k + 1 : Nat) : Int))
        rw [wrapI (by omega) (by omega)]; rfl
      · rw [hfs]; rfl
  · have c1 : ¬ (k : Int) < (held.length : Nat) := of_decide_eq_false c1
    conv => whnf
    have hkk : held.take k = held := List.take_of_length_le (by omega)
    exact FinF.mk _ (.sc (.h 3)) [.box 112 [.h 1, .h 2], .slc lockK held, .slc lockK queue, .slc lockK (held.filter (ofB unit))] [4] rfl rfl rfl ⟨⟨rfl, rfl⟩, rfl, rfl, by show AM.Item.slc lockK ((held.take k).filter (ofB unit)) = _; rw [hkk], trivial⟩ rfl (Nat.le_succ _) ⟨rfl, rfl⟩
end Go.Proofs.Ytljokmmgkecjbaa

namespace Go.Proofs.Ytljokmmgkecjbaa
open Go Go.AM
/-- maps from numbers to truth values -/
noncomputable abbrev ibM : MKind where
  K := Int
  V := Bool
  kt := 3
  vt := 4
  desc := .int .i64
  ek k := .int .i64 k
  ekA k := .int false .i64 k
  decK := fun | .int _ .i64 k => some k | _ => none
  ev b := .bool b
  evA b := (false, [.bool b])
  decV := fun | .sc (.bool b) => some b | .sc (.lb b) => some b | _ => none
  zero := false
  eqb a b := a == b
  eqb_ok := fun a b => by simp
  inj := fun a b h => by cases h; rfl
  isk := fun k => rfl
  repK := fun env k => rfl
  repV := fun env x => rfl
  decK_ok := fun x k h env v hr => by
    split at h
    · cases h; exact hr
    · cases h
  decV_ok := fun x y h env v hr => by
    split at h
    · cases h; exact hr
    · cases h; exact hr
    · cases h
noncomputable def maps46 (T : TypeId) : Option MKind := match T with
  | 118 => some ibM
  | _ => none
theorem maps46_ok : ∀ T M, maps46 T = some M → MapFacts Try.prog T M := by
  intro T M h
  unfold maps46 at h
  split at h
  · cases h
    exact ⟨Try.underlying118, Try.underlying3, ⟨_, rfl, rfl⟩⟩
  · cases h
/-! a manager in its callers' memory -/
def mgrS (t : Nat) (m : List AM.Item) (K : Nat → Nat → List Lk → List Lk → Prop) : Prop := match nth m t .gone with
  | .box 112 [.h a, .h b] => match nth m a .gone, nth m b .gone with
    | .slc K1 xs, .slc K2 ys => Need (a ≠ b) (Cast (K1 := lockK) K1 xs fun xs => Cast (K1 := lockK) K2 ys fun ys => K a b xs ys)
    | _, _ => False
  | _ => False
theorem mgrS_get {t : Nat} {m : List AM.Item} {K : Nat → Nat → List Lk → List Lk → Prop} (h : mgrS t m K) : ∃ a b xs ys, K a b xs ys ∧ takes m (fun i => nth [t, a, b] i i) 3 (mgr xs ys) [t, a, b] ∧ apartP (mgr xs ys) [t, a, b] = true ∧ [t, a, b].all (fun t => Nat.blt t m.length) = true := by
  unfold mgrS at h
  split at h
  · rename_i a b ht
    split at h
    · rename_i K1 xs K2 ys ha hb
      obtain ⟨hab, xs, _, ys, _, h⟩ := h
      have lt : ∀ {x : Nat} {it : AM.Item}, nth m x .gone = it → it ≠ .gone → x < m.length := fun h1 h2 => (List.getElem?_eq_some_iff.1 (nth_some h1 h2)).1
      have hta : t ≠ a := by intro e; subst e; rw [ht] at ha; cases ha
      have htb : t ≠ b := by intro e; subst e; rw [ht] at hb; cases hb
      have bne : ∀ {x y : Nat}, x ≠ y → Nat.beq x y = false := fun h => by
        cases hbe : Nat.beq _ _ with
        | false => rfl
        | true => exact absurd (Nat.eq_of_beq_eq_true hbe) h
      refine ⟨a, b, xs, ys, h, ⟨rfl, ht, ha, hb, trivial⟩, ?_, ?_⟩
      · simp [apartP, apart1, bne hta, bne htb, bne hab]
      · simp [Nat.blt_eq, lt ht (fun e => by cases e), lt ha (fun e => by cases e), lt hb (fun e => by cases e)]
    · exact h.elim
  · exact h.elim
def lkOf : AVal → Option Lk
  | .agg [.int _ .i64 u, .int _ .i64 i, .str lo, .str hi, e, x] => match boolOf e, boolOf x with
    | some e, some x => some ⟨u, i, lo, hi, e, x⟩
    | _, _ => none
  | _ => none
theorem lkOf_rep {x : AVal} {l : Lk} (h : lkOf x = some l) {env : List Value} {v : Value} (hr : Rep env x v) : Rep env l.A v := by
  unfold lkOf at h
  split at h
  · split at h
    · rename_i he hx
      cases h
      obtain ⟨vs, rfl, v1, _, rfl, h1, v2, _, rfl, h2, v3, _, rfl, h3, v4, _, rfl, h4, v5, _, rfl, h5, v6, _, rfl, h6, rfl⟩ := hr
      exact ⟨_, rfl, _, _, rfl, h1, _, _, rfl, h2, _, _, rfl, h3, _, _, rfl, h4, _, _, rfl, boolOf_rep he h5, _, _, rfl, boolOf_rep hx h6, rfl⟩
    · cases h
  · cases h
/-- an argument told in its standard form -/
theorem TripleF.arg {P : Program} {f : FuncId} {m : List AM.Item} {k : AVal → List AM.Item → Prop} {pre post : List AVal} {x y : AVal} (hxy : ∀ env v, Rep env x v → Rep env y v) (h : TripleF P f (pre ++ y :: post) m k) : TripleF P f (pre ++ x :: post) m k := by
  intro w0 F env vs w hM hr
  refine h w0 F env vs w hM ?_
  clear h hM
  induction pre generalizing vs with
  | nil => obtain ⟨v, vs', rfl, h1, h2⟩ := hr; exact ⟨v, vs', rfl, hxy _ _ h1, h2⟩
  | cons z zs ih => obtain ⟨v, vs', rfl, h1, h2⟩ := hr; exact ⟨v, vs', rfl, h1, ih _ h2⟩

def heldS (args : List AVal) (m : List AM.Item) (k : AVal → List AM.Item → Prop) : Prop := match args with
  | [.sc (.fld t 0), .sc (.int _ .i64 unit)] => mgrS t m fun a b xs ys => Need (xs.length ≤ 1048576) (snocK m (.slc lockK (xs.filter (ofB unit))) fun m' n => k (.sc (.h n)) m')
  | _ => False
theorem heldS_ok {args : List AVal} {m : List AM.Item} {k : AVal → List AM.Item → Prop} (h : heldS args m k) : TripleF Try.prog 62 args m k := by
  unfold heldS at h
  split at h
  · rename_i t _ unit
    obtain ⟨a, b, xs, ys, ⟨hl, h⟩, h1, h2, h3⟩ := mgrS_get h
    rw [snocK_eq] at h
    exact TripleF.std (frame_add (Held_base xs ys unit hl) [t, a, b] rfl rfl h1 h2 h3 h)
  · exact h.elim
def confS (args : List AVal) (m : List AM.Item) (k : AVal → List AM.Item → Prop) : Prop := match args with
  | [.sc (.h t), x] => match lkOf x with
    | some l => rowS m t lockK (fun ys => .sc (.bool (conflB ys l))) k
    | none => False
  | _ => False
theorem confS_ok {args : List AVal} {m : List AM.Item} {k : AVal → List AM.Item → Prop} (h : confS args m k) : TripleF Try.prog 89 args m k := by
  unfold confS at h
  split at h
  · rename_i t x
    split at h
    · rename_i l hl
      obtain ⟨ys, hk, hf⟩ := rowS_fit h
      exact TripleF.arg (pre := [.sc (.h t)]) (post := []) (fun env v => lkOf_rep hl) (frame_ro2 (conflicts_base ys l) [t] rfl rfl hf fun r hr => hr ▸ hk)
    · exact h.elim
  · exact h.elim
noncomputable def E98 : Eng := mkEngX Try.prog kinds46 eqT qt46c (fun f args m k => match f with
  | 62 => heldS args m k
  | 89 => confS args m k
  | _ => False) noQ maps46 (fun _ _ _ => none) (fun _ => false)
theorem E98_ok : E98.Ok := by
  refine mkEngX_ok mixedT qt46cok (fun f args m k h => ?_) (fun _ _ _ _ _ h => by cases h) eqT_ok maps46_ok (fun _ _ _ _ h => by cases h)
  split at h
  · exact heldS_ok h
  · exact confS_ok h
  · exact h.elim
noncomputable def addK (l : List (Int × Bool)) (u : Int) : List (Int × Bool) := putL ibM l u true
noncomputable def stepA (l : Lk) (acc : List (Int × Bool)) (x : Lk) : List (Int × Bool) := if confL x l = true then addK acc x.u else acc
noncomputable def stepB (l : Lk) (own : List Lk) (acc : List (Int × Bool)) (x : Lk) : List (Int × Bool) := if (confL x l && !conflB own x) = true then addK acc x.u else acc
noncomputable def blkM (held before : List Lk) (l : Lk) : List (Int × Bool) := before.foldl (stepB l (held.filter (ofB l.u))) (held.foldl (stepA l) [])
theorem foldl_snoc {α : Type} {f : α → Lk → α} {a : α} {xs : List Lk} {k : Nat} (hk : k < xs.length) : (xs.take (k + 1)).foldl f a = f ((xs.take k).foldl f a) (xs.getD k lk0) := by
  rw [List.take_succ_eq_append_getElem hk, List.foldl_append, List.getD_eq_getElem?_getD, List.getElem?_eq_getElem hk]; rfl
theorem wrap_succ {k : Nat} {n : Nat} (h : k < n) (hn : n ≤ 9223372036854775807) : AVal.sc (.int false .i64 (IntKind.i64.wrap ((k : Int) + 1))) = .sc (.int false .i64 ((k + 1 : Nat) : Int)) := by
  rw [wrapI (by omega) (by omega)]; rfl
theorem ltN {k n : Nat} (h : decide ((k : Int) < (n : Int)) = true) : k < n := by
  have := of_decide_eq_true h; omega
theorem geN {k n : Nat} (h : decide ((k : Int) < (n : Int)) = false) : n ≤ k := by
  have := of_decide_eq_false h; omega
theorem blockers_q (held queue : List Lk) (l : Lk) (hb : held.length ≤ 1048576) : TripleF Try.prog 98 [.sc (.fld 0 0), l.A, .sc (.h 2)] (mgr held queue) (fun r m' => r = .sc (.h 3) ∧ m' = mgr held queue ++ [.mp true ibM (blkM held queue l)]) := by
  refine triple_of_awp E98_ok Try.func98 rfl (by kernel_rfl) ?_
  obtain ⟨u, i, lo, hi, e, x⟩ := l
  simp only [Lk.A]
  conv => whnf
  refine Need.mk (by decide) (Cast.mk _ _ (Cast.mk _ _ (Need.mk hb ?_)))
  conv => whnf
  refine Know.mk fun hlen => ?_
  have hlen : held.length ≤ 9223372036854775807 := hlen
  conv => whnf
  refine LoopF.inv Nat (fun k => k ≤ held.length) (fun k => [(23, .sc (.int false .i64 (k : Int)))]) (fun k => held.length - k)
    (fun k => [.box 112 [.h 1, .h 2], .slc lockK held, .slc lockK queue, .box 58 (Lk.S ⟨u, i, lo, hi, e, x⟩), .mp true ibM ((held.take k).foldl (stepA ⟨u, i, lo, hi, e, x⟩) []), .slc lockK (held.filter (ofB u))]) (fun _ => Nat.le_refl _) 0 []
    (Nat.zero_le _) ⟨⟨⟨rfl, rfl⟩, trivial⟩, ⟨⟨rfl, rfl⟩, rfl, rfl, ⟨rfl, rfl⟩, rfl, rfl, trivial⟩, rfl⟩ ?_
  · rintro k h1
    conv => whnf
    refine Br.mk (fun c1 => ?_) (fun c1 => ?_)
    · have hk := ltN c1
      have hfs := foldl_snoc (f := stepA ⟨u, i, lo, hi, e, x⟩) (a := []) hk
      refine Need.mk (show 0 ≤ (k : Int) ∧ (k : Int) < (held.length : Nat) from ⟨by omega, by omega⟩) ?_
      refine Br.mk (fun c2 => ?_) (fun c2 => ?_)
      · have c2 : confL (nth held k lk0) ⟨u, i, lo, hi, e, x⟩ = true := c2
        rw [nth_eq] at c2
        rw [stepA, if_pos c2] at hfs
        conv => whnf
        refine Need.mk rfl ?_
        refine ⟨k + 1, [], by omega, by omega, ⟨⟨⟨rfl, wrap_succ hk hlen⟩, trivial⟩, ⟨⟨rfl, rfl⟩, rfl, rfl, ⟨rfl, rfl⟩, ?_, rfl, trivial⟩, rfl⟩, rfl⟩
        rw [hfs, ← nth_eq]; rfl
      · have c2 : confL (nth held k lk0) ⟨u, i, lo, hi, e, x⟩ = false := c2
        rw [nth_eq] at c2
        rw [stepA, if_neg (by rw [c2]; simp)] at hfs
        refine ⟨k + 1, [], by omega, by omega, ⟨⟨⟨rfl, wrap_succ hk hlen⟩, trivial⟩, ⟨⟨rfl, rfl⟩, rfl, rfl, ⟨rfl, rfl⟩, ?_, rfl, trivial⟩, rfl⟩, rfl⟩
        rw [hfs]; rfl
    · have c1 := geN c1
      have hkk : held.take k = held := List.take_of_length_le (by omega)
      have hkk2 : (held.take k).foldl (stepA ⟨u, i, lo, hi, e, x⟩) [] = held.foldl (stepA ⟨u, i, lo, hi, e, x⟩) [] := by rw [hkk]
      generalize (held.take k).foldl (stepA ⟨u, i, lo, hi, e, x⟩) [] = acc at hkk2 ⊢
      subst hkk2
      conv => whnf
      refine Know.mk fun hlen2 => ?_
      have hlen2 : queue.length ≤ 9223372036854775807 := hlen2
      conv => whnf
      refine LoopF.inv Nat (fun k => k ≤ (queue).length) (fun k => [(36, .sc (.int false .i64 (k : Int)))]) (fun k => (queue).length - k)
        (fun k => [.box 112 [.h 1, .h 2], .slc lockK held, .slc lockK queue, .box 58 (Lk.S ⟨u, i, lo, hi, e, x⟩), .mp true ibM (((queue).take k).foldl (stepB ⟨u, i, lo, hi, e, x⟩ (held.filter (ofB u))) (held.foldl (stepA ⟨u, i, lo, hi, e, x⟩) [])), .slc lockK (held.filter (ofB u))]) (fun _ => Nat.le_refl _) 0 []
        (Nat.zero_le _) ⟨⟨⟨rfl, rfl⟩, trivial⟩, ⟨⟨rfl, rfl⟩, rfl, rfl, ⟨rfl, rfl⟩, rfl, rfl, trivial⟩, rfl⟩ ?_
      rintro j h2
      conv => whnf
      refine Br.mk (fun c3 => ?_) (fun c3 => ?_)
      · have hj := ltN c3
        have hfs := foldl_snoc (f := stepB ⟨u, i, lo, hi, e, x⟩ (held.filter (ofB u))) (a := held.foldl (stepA ⟨u, i, lo, hi, e, x⟩) []) (xs := queue) hj
        refine Need.mk (show 0 ≤ (j : Int) ∧ (j : Int) < (queue.length : Nat) from ⟨by omega, by omega⟩) ?_
        conv => whnf
        refine Br.mk (fun c4 => ?_) (fun c4 => ?_)
        · have c4 : confL (nth queue j lk0) ⟨u, i, lo, hi, e, x⟩ = true := c4
          rw [nth_eq] at c4
          conv => whnf
          refine Cast.mk _ _ ?_
          conv => whnf
          refine Br.mk (fun c5 => ?_) (fun c5 => ?_)
          · have c5 : (!conflB (held.filter (ofB u)) (nth queue j lk0)) = true := c5
            rw [nth_eq] at c5
            rw [stepB, if_pos (by rw [c4, c5]; rfl)] at hfs
            conv => whnf
            refine Need.mk rfl ?_
            refine ⟨j + 1, [], by omega, by omega, ⟨⟨⟨rfl, wrap_succ hj hlen2⟩, trivial⟩, ⟨⟨rfl, rfl⟩, rfl, rfl, ⟨rfl, rfl⟩, ?_, rfl, trivial⟩, rfl⟩, rfl⟩
            rw [hfs, ← nth_eq]; rfl
          · have c5 : (!conflB (held.filter (ofB u)) (nth queue j lk0)) = false := c5
            rw [nth_eq] at c5
            rw [stepB, if_neg (by rw [c4, c5]; simp)] at hfs
            refine ⟨j + 1, [], by omega, by omega, ⟨⟨⟨rfl, wrap_succ hj hlen2⟩, trivial⟩, ⟨⟨rfl, rfl⟩, rfl, rfl, ⟨rfl, rfl⟩, ?_, rfl, trivial⟩, rfl⟩, rfl⟩
            rw [hfs]; rfl
        · have c4 : confL (nth queue j lk0) ⟨u, i, lo, hi, e, x⟩ = false := c4
          rw [nth_eq] at c4
          rw [stepB, if_neg (by rw [c4]; simp)] at hfs
          refine ⟨j + 1, [], by omega, by omega, ⟨⟨⟨rfl, wrap_succ hj hlen2⟩, trivial⟩, ⟨⟨rfl, rfl⟩, rfl, rfl, ⟨rfl, rfl⟩, ?_, rfl, trivial⟩, rfl⟩, rfl⟩
          rw [hfs]; rfl
      · have c3 := geN c3
        conv => whnf
        refine FinF.mk _ (.sc (.h 3)) [.box 112 [.h 1, .h 2], .slc lockK held, .slc lockK queue, .mp true ibM (blkM held (queue) ⟨u, i, lo, hi, e, x⟩)] [4] rfl rfl rfl ⟨⟨rfl, rfl⟩, rfl, rfl, ?_, trivial⟩ rfl (Nat.le_succ _) ⟨rfl, rfl⟩
        show AM.Item.mp true ibM (((queue).take j).foldl _ _) = _
        rw [List.take_of_length_le (by omega)]; rfl

theorem blockers_s (held queue : List Lk) (l : Lk) (p : Nat) (hp : p ≤ queue.length) (hq : queue.length ≤ 1048576) (hb : held.length ≤ 1048576) : TripleF Try.prog 98 [.sc (.fld 0 0), l.A, .sc (.sub 2 6 0 p)] (mgr held queue) (fun r m' => r = .sc (.h 3) ∧ m' = mgr held queue ++ [.mp true ibM (blkM held (queue.take p) l)]) := by
  refine triple_of_awp E98_ok Try.func98 rfl (by kernel_rfl) ?_
  obtain ⟨u, i, lo, hi, e, x⟩ := l
  simp only [Lk.A]
  conv => whnf
  refine Need.mk (by decide) (Cast.mk _ _ (Cast.mk _ _ (Need.mk hb ?_)))
  conv => whnf
  refine Know.mk fun hlen => ?_
  have hlen : held.length ≤ 9223372036854775807 := hlen
  conv => whnf
  refine LoopF.inv Nat (fun k => k ≤ held.length) (fun k => [(23, .sc (.int false .i64 (k : Int)))]) (fun k => held.length - k)
    (fun k => [.box 112 [.h 1, .h 2], .slc lockK held, .slc lockK queue, .box 58 (Lk.S ⟨u, i, lo, hi, e, x⟩), .mp true ibM ((held.take k).foldl (stepA ⟨u, i, lo, hi, e, x⟩) []), .slc lockK (held.filter (ofB u))]) (fun _ => Nat.le_refl _) 0 []
    (Nat.zero_le _) ⟨⟨⟨rfl, rfl⟩, trivial⟩, ⟨⟨rfl, rfl⟩, rfl, rfl, ⟨rfl, rfl⟩, rfl, rfl, trivial⟩, rfl⟩ ?_
  · rintro k h1
    conv => whnf
    refine Br.mk (fun c1 => ?_) (fun c1 => ?_)
    · have hk := ltN c1
      have hfs := foldl_snoc (f := stepA ⟨u, i, lo, hi, e, x⟩) (a := []) hk
      refine Need.mk (show 0 ≤ (k : Int) ∧ (k : Int) < (held.length : Nat) from ⟨by omega, by omega⟩) ?_
      refine Br.mk (fun c2 => ?_) (fun c2 => ?_)
      · have c2 : confL (nth held k lk0) ⟨u, i, lo, hi, e, x⟩ = true := c2
        rw [nth_eq] at c2
        rw [stepA, if_pos c2] at hfs
        conv => whnf
        refine Need.mk rfl ?_
        refine ⟨k + 1, [], by omega, by omega, ⟨⟨⟨rfl, wrap_succ hk hlen⟩, trivial⟩, ⟨⟨rfl, rfl⟩, rfl, rfl, ⟨rfl, rfl⟩, ?_, rfl, trivial⟩, rfl⟩, rfl⟩
        rw [hfs, ← nth_eq]; rfl
      · have c2 : confL (nth held k lk0) ⟨u, i, lo, hi, e, x⟩ = false := c2
        rw [nth_eq] at c2
        rw [stepA, if_neg (by rw [c2]; simp)] at hfs
        refine ⟨k + 1, [], by omega, by omega, ⟨⟨⟨rfl, wrap_succ hk hlen⟩, trivial⟩, ⟨⟨rfl, rfl⟩, rfl, rfl, ⟨rfl, rfl⟩, ?_, rfl, trivial⟩, rfl⟩, rfl⟩
        rw [hfs]; rfl
    · have c1 := geN c1
      have hkk : held.take k = held := List.take_of_length_le (by omega)
      have hkk2 : (held.take k).foldl (stepA ⟨u, i, lo, hi, e, x⟩) [] = held.foldl (stepA ⟨u, i, lo, hi, e, x⟩) [] := by rw [hkk]
      generalize (held.take k).foldl (stepA ⟨u, i, lo, hi, e, x⟩) [] = acc at hkk2 ⊢
      subst hkk2
      conv => whnf
      refine LoopF.inv Nat (fun k => k ≤ (queue.take p).length) (fun k => [(36, .sc (.int false .i64 (k : Int)))]) (fun k => (queue.take p).length - k)
        (fun k => [.box 112 [.h 1, .h 2], .slc lockK held, .slc lockK queue, .box 58 (Lk.S ⟨u, i, lo, hi, e, x⟩), .mp true ibM (((queue.take p).take k).foldl (stepB ⟨u, i, lo, hi, e, x⟩ (held.filter (ofB u))) (held.foldl (stepA ⟨u, i, lo, hi, e, x⟩) [])), .slc lockK (held.filter (ofB u))]) (fun _ => Nat.le_refl _) 0 []
        (Nat.zero_le _) ⟨⟨⟨rfl, rfl⟩, trivial⟩, ⟨⟨rfl, rfl⟩, rfl, rfl, ⟨rfl, rfl⟩, rfl, rfl, trivial⟩, rfl⟩ ?_
      rintro j h2
      conv => whnf
      refine Br.mk (fun c3 => ?_) (fun c3 => ?_)
      · have hj := ltN c3
        have hbl : (queue.take p).length = p := by rw [List.length_take]; omega
        have hfs := foldl_snoc (f := stepB ⟨u, i, lo, hi, e, x⟩ (held.filter (ofB u))) (a := held.foldl (stepA ⟨u, i, lo, hi, e, x⟩) []) (xs := queue.take p) (by rw [hbl]; exact hj)
        have hgt : (queue.take p).getD j lk0 = queue.getD (0 + j) lk0 := by rw [Nat.zero_add, List.getD_eq_getElem?_getD, List.getD_eq_getElem?_getD, List.getElem?_take, if_pos hj]
        refine Need.mk (show 0 ≤ (j : Int) ∧ (j : Int) < (p : Nat) from ⟨by omega, by omega⟩) ?_
        conv => whnf
        refine Br.mk (fun c4 => ?_) (fun c4 => ?_)
        · have c4 : confL (nth queue (0 + j) lk0) ⟨u, i, lo, hi, e, x⟩ = true := c4
          rw [nth_eq] at c4
          conv => whnf
          refine Cast.mk _ _ ?_
          conv => whnf
          refine Br.mk (fun c5 => ?_) (fun c5 => ?_)
          · have c5 : (!conflB (held.filter (ofB u)) (nth queue (0 + j) lk0)) = true := c5
            rw [nth_eq] at c5
            rw [stepB, if_pos (by rw [hgt, c4, c5]; rfl)] at hfs
            conv => whnf
            refine Need.mk rfl ?_
            refine ⟨j + 1, [], by omega, by omega, ⟨⟨⟨rfl, wrap_succ hj (by omega)⟩, trivial⟩, ⟨⟨rfl, rfl⟩, rfl, rfl, ⟨rfl, rfl⟩, ?_, rfl, trivial⟩, rfl⟩, rfl⟩
            rw [hfs, hgt, ← nth_eq]; rfl
          · have c5 : (!conflB (held.filter (ofB u)) (nth queue (0 + j) lk0)) = false := c5
            rw [nth_eq] at c5
            rw [stepB, if_neg (by rw [hgt, c4, c5]; simp)] at hfs
            refine ⟨j + 1, [], by omega, by omega, ⟨⟨⟨rfl, wrap_succ hj (by omega)⟩, trivial⟩, ⟨⟨rfl, rfl⟩, rfl, rfl, ⟨rfl, rfl⟩, ?_, rfl, trivial⟩, rfl⟩, rfl⟩
            rw [hfs]; rfl
        · have c4 : confL (nth queue (0 + j) lk0) ⟨u, i, lo, hi, e, x⟩ = false := c4
          rw [nth_eq] at c4
          rw [stepB, if_neg (by rw [hgt, c4]; simp)] at hfs
          refine ⟨j + 1, [], by omega, by omega, ⟨⟨⟨rfl, wrap_succ hj (by omega)⟩, trivial⟩, ⟨⟨rfl, rfl⟩, rfl, rfl, ⟨rfl, rfl⟩, ?_, rfl, trivial⟩, rfl⟩, rfl⟩
          rw [hfs]; rfl
      · have c3 := geN c3
        have hbl : (queue.take p).length = p := by rw [List.length_take]; omega
        conv => whnf
        refine FinF.mk _ (.sc (.h 3)) [.box 112 [.h 1, .h 2], .slc lockK held, .slc lockK queue, .mp true ibM (blkM held (queue.take p) ⟨u, i, lo, hi, e, x⟩)] [4] rfl rfl rfl ⟨⟨rfl, rfl⟩, rfl, rfl, ?_, trivial⟩ rfl (Nat.le_succ _) ⟨rfl, rfl⟩
        show AM.Item.mp true ibM (((queue.take p).take j).foldl _ _) = _
        rw [List.take_of_length_le (by omega)]; rfl

end Go.Proofs.Ytljokmmgkecjbaa

namespace Go.Proofs.Ytljokmmgkecjbaa
open Go Go.AM
noncomputable def E100 (unit : Int) : Eng := mkEng Try.prog kinds46 noEq noQT (fun f args m k => match f with
  | 124 => idxS (ofB unit) 128 3 [.int false .i64 unit] (fun xs => .sc (.int false .i64 (idxOf (ofB unit) xs))) args m k
  | 128 => predS (ofB unit) 128 3 [.int false .i64 unit] 128 args m k
  | _ => False) noQ
theorem E100_ok (unit : Int) : (E100 unit).Ok := by
  refine mkEng_ok mixedT (fun _ _ _ _ h => by cases h) (fun f args m k h => ?_) (fun _ _ _ _ _ h => by cases h) (fun _ _ _ _ h => by cases h)
  split at h
  · exact idxS_fit (fun _ => rfl) (indexFunc_base (of_pred unit) rfl rfl) rfl h
  · exact predS_ok (of_pred unit) rfl _ _ _ _ h
  · exact h.elim
def notB (unit : Int) (l : Lk) : Bool := !ofB unit l
theorem idx_m1 {p : Lk → Bool} {xs : List Lk} (h : (idxOf p xs == -1) = true) : xs.any p = false := by
  unfold idxOf at h
  cases hp : xs.any p with
  | false => rfl
  | true => rw [hp, if_pos rfl] at h; simp at h
theorem idx_at {p : Lk → Bool} {xs : List Lk} (h : (idxOf p xs == -1) = false) : ∃ i : Nat, idxOf p xs = i ∧ i < xs.length ∧ p (xs.getD i lk0) = true ∧ ∀ j, j < i → p (xs.getD j lk0) = false := by
  unfold idxOf at h ⊢
  cases hp : xs.any p with
  | false => rw [hp] at h; simp at h
  | true =>
    rw [if_pos rfl]
    have hlt : xs.findIdx p < xs.length := List.findIdx_lt_length.2 (by simpa using hp)
    refine ⟨_, rfl, hlt, ?_, fun j hj => ?_⟩
    · rw [List.getD_eq_getElem?_getD, List.getElem?_eq_getElem hlt]; exact List.findIdx_getElem (w := hlt)
    · rw [List.getD_eq_getElem?_getD, List.getElem?_eq_getElem (by omega)]
      have := List.not_of_lt_findIdx hj
      simpa using this
theorem filter_all {p : Lk → Bool} {xs : List Lk} (h : xs.any p = false) : xs.filter (fun y => !p y) = xs := by
  rw [List.filter_eq_self]
  intro y hy
  rw [List.any_eq_false] at h
  simpa using h y hy
structure DelJ (unit : Int) (xs : List Lk) (s : Nat × Nat × List Lk) : Prop where
  lt : s.1 < s.2.1
  le : s.2.1 ≤ xs.length
  len : s.2.2.length = xs.length
  fst : s.2.2.take s.1 = (xs.take s.2.1).filter (notB unit)
  rest : s.2.2.drop s.2.1 = xs.drop s.2.1
theorem drop_getD {xs ys : List Lk} {j : Nat} (h : ys.drop j = xs.drop j) : ys.getD j lk0 = xs.getD j lk0 := by
  have := congrArg (·[0]?) h
  simp only [List.getElem?_drop, Nat.add_zero] at this
  rw [List.getD_eq_getElem?_getD, List.getD_eq_getElem?_getD, this]
theorem drop_succ_of {xs ys : List Lk} {j : Nat} (h : ys.drop j = xs.drop j) : ys.drop (j + 1) = xs.drop (j + 1) := by
  rw [← List.drop_drop, ← List.drop_drop, h]
theorem DeleteFunc_base (xs : List Lk) (unit : Int) (hb : xs.length ≤ 1048576) : TripleF Try.prog 100 [.sc (.h 0), .sc (.fn 128 [(1, 0)])] [.slc lockK xs, .box 3 [.int false .i64 unit]] (fun r m' => r = .sc (.h 2) ∧ m' = [.gone, .box 3 [.int false .i64 unit], .slc lockK (xs.filter (notB unit))]) := by
  refine triple_of_awp (E100_ok unit) Try.func100 rfl (by kernel_rfl) ?_
  conv => whnf
  refine Need.mk rfl (Need.mk rfl (Cast.mk _ _ ?_))
  conv => whnf
  refine Br.mk (fun c0 => ?_) (fun c0 => ?_)
  · have hany := idx_m1 c0
    conv => whnf
    refine FinF.mk _ (.sc (.h 2)) [.gone, .box 3 [.int false .i64 unit], .slc lockK (xs.filter (notB unit))] [0] rfl rfl rfl ⟨trivial, ⟨rfl, rfl⟩, ?_, trivial⟩ rfl (Nat.le_succ _) ⟨rfl, rfl⟩
    show AM.Item.slc lockK xs = _
    rw [show notB unit = fun y => !ofB unit y from rfl, filter_all hany]
  · obtain ⟨i, hi, hil, hpi, hbef⟩ := idx_at c0
    rw [hi]
    conv => whnf
    refine LoopF.inv (Nat × Nat × List Lk) (DelJ unit xs) (fun s => [(5, .sc (.int false .i64 (s.1 : Int))), (6, .sc (.int false .i64 (s.2.1 : Int)))]) (fun s => xs.length - s.2.1)
      (fun s => [.slc lockK s.2.2, .box 3 [.int false .i64 unit]]) (fun _ => Nat.le_refl _) (i, i + 1, xs) []
      ⟨by simp, hil, rfl, ?_, rfl⟩ ⟨⟨⟨rfl, rfl⟩, ⟨rfl, ?_⟩, trivial⟩, ⟨rfl, ⟨rfl, rfl⟩, trivial⟩, rfl⟩ ?_
    · show xs.take i = (xs.take (i + 1)).filter (notB unit)
      rw [filter_snoc hil, if_neg (by simp only [notB, hpi]; simp), List.append_nil, List.filter_eq_self.2]
      intro y hy
      obtain ⟨j, hj, rfl⟩ := List.mem_take_iff_getElem.1 hy
      have := hbef j (by omega)
      rw [List.getD_eq_getElem?_getD, List.getElem?_eq_getElem (by omega)] at this
      simpa [notB] using this
    · exact wrap_succ hil (by omega)
    · rintro ⟨a, j, ys⟩ ⟨hlt, hle, hlen, hfst, hrest⟩
      simp only at hlt hle hlen hfst hrest
      conv => whnf
      refine Know.mk fun hmax => ?_
      have hmax : ys.length ≤ 9223372036854775807 := hmax
      conv => whnf
      refine Br.mk (fun c1 => ?_) (fun c1 => ?_)
      · have hj : j < ys.length := ltN c1
        conv => whnf
        refine Need.mk (show 0 ≤ (j : Int) ∧ (j : Int) < (ys.length : Nat) from ⟨by omega, by omega⟩) ?_
        conv => whnf
        refine Need.mk rfl (Need.mk rfl ?_)
        conv => whnf
        have hg := drop_getD hrest
        have hsn := filter_snoc (p := notB unit) (xs := xs) (k := j) (by omega)
        refine Br.mk (fun c2 => ?_) (fun c2 => ?_)
        · have c2 : notB unit (nth ys j lk0) = true := c2
          rw [nth_eq, hg] at c2
          rw [if_pos c2] at hsn
          conv => whnf
          refine Need.mk (show 0 ≤ (a : Int) ∧ (a : Int) < (ys.length : Nat) from ⟨by omega, by omega⟩) ?_
          conv => whnf
          refine ⟨(a + 1, j + 1, ys.set a (ys.getD j lk0)), [], ⟨by simp only; omega, by simp only; omega, by simp [hlen], ?_, ?_⟩, by simp only; omega, ⟨⟨⟨rfl, wrap_succ (by omega) hmax⟩, ⟨rfl, wrap_succ hj hmax⟩, trivial⟩, ⟨?_, ⟨rfl, rfl⟩, trivial⟩, rfl⟩, rfl⟩
          · simp only
            rw [hsn, ← hfst, List.take_set, List.take_succ_eq_append_getElem (by omega), List.set_append_right _ _ (by simp; omega)]
            rw [show (ys.take a).length = a by rw [List.length_take]; omega, Nat.sub_self, List.set_cons_zero, hg]
          · simp only
            rw [List.drop_set_of_lt (by omega)]
            exact drop_succ_of hrest
          · rw [← nth_eq]; rfl
        · have c2 : notB unit (nth ys j lk0) = false := c2
          rw [nth_eq, hg] at c2
          rw [if_neg (by rw [c2]; simp), List.append_nil] at hsn
          refine ⟨(a, j + 1, ys), [], ⟨by simp only; omega, by simp only; omega, hlen, by simp only; rw [hsn]; exact hfst, drop_succ_of hrest⟩, by simp only; omega, ⟨⟨⟨rfl, rfl⟩, ⟨rfl, wrap_succ hj hmax⟩, trivial⟩, ⟨rfl, ⟨rfl, rfl⟩, trivial⟩, rfl⟩, rfl⟩
      · have c1 : ys.length ≤ j := geN c1
        conv => whnf
        refine Need.mk (show 0 ≤ (ys.length : Int) ∧ (ys.length : Int) ≤ (ys.length : Nat) from ⟨by omega, by omega⟩) ?_
        refine Need.mk (show 0 ≤ (a : Int) ∧ (a : Int) ≤ (ys.length : Nat) from ⟨by omega, by omega⟩) ?_
        conv => whnf
        refine Need.mk ⟨by kernel_rfl, rfl⟩ ?_
        conv => whnf
        refine Need.mk (show 0 ≤ (a : Int) ∧ (a : Int) ≤ ((ys.take a ++ List.replicate (ys.length - a) lk0 ++ ys.drop (a + (ys.length - a))).length : Nat) from ⟨by omega, by simp; omega⟩) ?_
        refine Need.mk (show 0 ≤ (0 : Int) ∧ (0 : Int) ≤ (a : Int) from ⟨by omega, by omega⟩) ?_
        conv => whnf
        refine FinF.tell (.cut 4) _ _ (And.intro rfl rfl) ?_
        refine FinF.mk _ (.sc (.h 2)) [.gone, .box 3 [.int false .i64 unit], .slc lockK (xs.filter (notB unit))] [2] rfl rfl rfl ⟨trivial, ⟨rfl, rfl⟩, ?_, trivial⟩ rfl (Nat.le_succ _) ⟨rfl, rfl⟩
        show AM.Item.slc lockK ((ys.take a ++ List.replicate (ys.length - a) lk0 ++ ys.drop (a + (ys.length - a))).take a) = _
        rw [List.append_assoc, List.take_append_of_le_length (by rw [List.length_take]; omega), List.take_of_length_le (l := ys.take a) (by rw [List.length_take]; omega), hfst, List.take_of_length_le (by omega)]
end Go.Proofs.Ytljokmmgkecjbaa

namespace Go.Proofs.Ytljokmmgkecjbaa
open Go Go.AM
/-! slices.Delete of one element -/
theorem Delete_base (xs : List Lk) (i : Nat) (hi : i < xs.length) (hb : xs.length ≤ 1048576) : TripleF Try.prog 129 [.sc (.h 0), .sc (.int false .i64 (i : Int)), .sc (.int false .i64 ((i + 1 : Nat) : Int))] [.slc lockK xs] (fun r m' => r = .sc (.h 1) ∧ m' = [.gone, .slc lockK (xs.take i ++ xs.drop (i + 1))]) := by
  refine triple_of_awp E62_ok Try.func129 rfl (by kernel_rfl) ?_
  conv => whnf
  refine Know.mk fun _ => ?_
  conv => whnf
  refine Need.mk ?_ ?_
  · show (0 ≤ (xs.length : Int) ∧ (xs.length : Int) ≤ (xs.length : Int)) ∧ (0 ≤ ((i + 1 : Nat) : Int) ∧ ((i + 1 : Nat) : Int) ≤ (xs.length : Int)) ∧ 0 ≤ (i : Int) ∧ (i : Int) ≤ ((i + 1 : Nat) : Int)
    omega
  conv => whnf
  refine Br.mk (fun c => ?_) (fun _ => ?_)
  · have c : ((i : Int) == ((i + 1 : Nat) : Int)) = true := c
    simp at c
    omega
  conv => whnf
  refine Know.mk fun _ => ?_
  conv => whnf
  refine Need.mk (show 0 ≤ (i : Int) ∧ (i : Int) ≤ (xs.length : Nat) from ⟨by omega, by omega⟩) ?_
  refine Need.mk (show 0 ≤ (0 : Int) ∧ (0 : Int) ≤ (i : Int) from ⟨by omega, by omega⟩) ?_
  conv => whnf
  refine Need.mk (show 0 ≤ (xs.length : Int) ∧ (xs.length : Int) ≤ (xs.length : Nat) from ⟨by omega, by omega⟩) ?_
  refine Need.mk (show 0 ≤ ((i + 1 : Nat) : Int) ∧ ((i + 1 : Nat) : Int) ≤ (xs.length : Int) from ⟨by omega, by omega⟩) ?_
  conv => whnf
  refine Cast.mk _ _ ?_
  have hl : ((xs.drop (i + 1)).take (xs.length - (i + 1))).length = xs.length - (i + 1) := by simp
  refine Need.mk (show i + ((xs.drop (i + 1)).take (xs.length - (i + 1))).length ≤ xs.length from by omega) ?_
  conv => whnf
  refine Need.mk (by kernel_rfl) ?_
  conv => whnf
  refine Know.mk fun _ => ?_
  conv => whnf
  have hY : (xs.take i ++ (xs.drop (i + 1)).take (xs.length - (i + 1))).length = xs.length - 1 := by simp; omega
  refine Need.mk (show 0 ≤ (xs.length : Int) ∧ (xs.length : Int) ≤ (xs.length : Nat) from ⟨by omega, by omega⟩) ?_
  refine Need.mk (show 0 ≤ ((xs.take i ++ (xs.drop (i + 1)).take (xs.length - (i + 1))).length : Int) ∧ ((xs.take i ++ (xs.drop (i + 1)).take (xs.length - (i + 1))).length : Int) ≤ (xs.length : Int) from ⟨by omega, by omega⟩) ?_
  conv => whnf
  refine Need.mk ⟨by kernel_rfl, rfl, Nat.le_refl _⟩ ?_
  conv => whnf
  refine FinF.tell (.weak 1) _ _ (And.intro rfl rfl) ?_
  refine FinF.mk _ (.sc (.h 1)) [.gone, .slc lockK (xs.take i ++ xs.drop (i + 1))] [1] rfl rfl rfl ⟨trivial, ?_, trivial⟩ rfl (Nat.le_succ _) ⟨rfl, rfl⟩
  show AM.Item.slc lockK (xs.take i ++ (xs.drop (i + 1)).take (xs.length - (i + 1))) = _
  rw [List.take_of_length_le (l := xs.drop (i + 1)) (by simp)]
/-! of -/
theorem of_base (unit : Int) : TripleF Try.prog 101 [.sc (.int false .i64 unit)] [] (fun r m' => r = .sc (.fn 128 [(0, 0)]) ∧ m' = [.box 3 [.int false .i64 unit]]) := by
  refine triple_of_awp E62_ok Try.func101 rfl (by kernel_rfl) ?_
  conv => whnf
  exact FinF.mk _ (.sc (.fn 128 [(0, 0)])) [.box 3 [.int false .i64 unit]] [0] rfl rfl rfl ⟨⟨rfl, rfl⟩, trivial⟩ rfl (Nat.zero_le _) ⟨rfl, rfl⟩
/-! Clone -/
theorem Clone_base (xs : List Lk) (hb : xs.length ≤ 1048576) : TripleF Try.prog 95 [.sc (.h 0)] [.ro lockK xs] (fun r m' => r = .sc (.h 1) ∧ m' = [.ro lockK xs, .slc lockK xs]) := by
  refine triple_of_awp E62_ok Try.func95 rfl (by kernel_rfl) ?_
  conv => whnf
  refine NilB.mk fun b hbn => ?_
  conv => whnf
  refine Br.mk (fun c => ?_) (fun c => ?_)
  · conv => whnf
    have := hbn c
    subst this
    refine FinF.tell (.nilT 2 lockK) _ _ (And.intro rfl rfl) ?_
    exact FinF.mk _ (.sc (.h 1)) [.ro lockK [], .slc lockK []] [1] rfl rfl rfl ⟨rfl, rfl, trivial⟩ rfl (Nat.le_succ _) ⟨rfl, rfl⟩
  · conv => whnf
    refine Cast.mk _ _ ?_
    conv => whnf
    refine Need.mk (show (0 + xs.length) * 64 ≤ 140737488355328 from by omega) ?_
    conv => whnf
    exact FinF.mk _ (.sc (.h 1)) [.ro lockK xs, .slc lockK xs] [2] rfl rfl rfl ⟨rfl, rfl, trivial⟩ rfl (Nat.le_succ _) ⟨rfl, rfl⟩
end Go.Proofs.Ytljokmmgkecjbaa

namespace Go.AM
open Go
theorem nth_agree {m m2 : List Item} {t : Nat} (h : m2[t]? = m[t]?) : nth m2 t .gone = nth m t .gone := by
  rw [nth_eq, nth_eq, List.getD_eq_getElem?_getD, List.getD_eq_getElem?_getD, h]
theorem eff_add {P : Program} {f : FuncId} {args0 args : List AVal} {m0 : List Item} {it it' : Item} {r0 res : AVal} {rd : List Nat} {need : Prop} (hT : TripleF P f args0 m0 fun r m' => r = r0 ∧ m' = m0 ++ [it]) (sel : List Nat) {m : List Item}
    (hargs : args = args0.map (AVal.ren fun i => nth sel i i)) (hb : args0.all (AVal.below m0.length) = true)
    (hfit : ∀ m2 : List Item, (∀ t, memb t rd = true → nth m2 t .gone = nth m t .gone) → takes m2 (fun i => nth sel i i) m0.length m0 sel) (ho : apartP m0 sel = true) (hs : sel.all (fun t => Nat.blt t m.length) = true)
    (hit : ∀ n, homeI (homeF m0.length n sel) it = it') (hres : ∀ n, r0.ren (homeF m0.length n sel) = res.ren fun _ => n) : EffOk P f args m ⟨need, rd, [], some it', res⟩ := by
  intro m2 hl hag
  refine frame_add hT sel hargs hb (hfit m2 fun t ht => nth_agree (hag t (.inl ht))) ho (by rw [hl]; exact hs) ⟨hres _, ?_⟩
  simp only [List.map_cons, List.map_nil, hit, patch, Option.toList_some]
end Go.AM
namespace Go.Proofs.Ytljokmmgkecjbaa
open Go Go.AM
open Classical in
noncomputable def castL (K : Kind) (xs : List K.T) : List Lk := if h : K = lockK then (h ▸ xs : List lockK.T) else []
theorem castL_eq (xs : List Lk) : castL lockK xs = xs := by simp [castL]
noncomputable def esBlk (args : List AVal) (m : List AM.Item) : Option Eff := match args with
  | [.sc (.fld t 0), .agg [.int _ .i64 u, .int _ .i64 i, .str lo, .str hi, .bool e, .bool x], before] => match nth m t .gone with
    | .box 112 [.h a, .h b] => match nth m a .gone, nth m b .gone with
      | .slc K1 xs, .slc K2 ys => match before with
        | .sc (.h b') => match Nat.beq b b' with
          | true => some ⟨a ≠ b ∧ K1 = lockK ∧ K2 = lockK ∧ xs.length ≤ 1048576 ∧ ys.length ≤ 1048576, [t, a, b], [], some (.mp true ibM (blkM (castL K1 xs) (castL K2 ys) ⟨u, i, lo, hi, e, x⟩)), .sc (.h 0)⟩
          | false => none
        | .sc (.sub b' 6 0 p) => match Nat.beq b b' with
          | true => some ⟨a ≠ b ∧ K1 = lockK ∧ K2 = lockK ∧ xs.length ≤ 1048576 ∧ ys.length ≤ 1048576 ∧ p ≤ ys.length, [t, a, b], [], some (.mp true ibM (blkM (castL K1 xs) ((castL K2 ys).take p) ⟨u, i, lo, hi, e, x⟩)), .sc (.h 0)⟩
          | false => none
        | _ => none
      | _, _ => none
    | _ => none
  | _ => none
theorem bne_beq {x y : Nat} (h : x ≠ y) : Nat.beq x y = false := by
  cases hbe : Nat.beq x y with
  | false => rfl
  | true => exact absurd (Nat.eq_of_beq_eq_true hbe) h
theorem nth_lt {m : List AM.Item} {x : Nat} {it : AM.Item} (h1 : nth m x .gone = it) (h2 : it ≠ .gone) : x < m.length := (List.getElem?_eq_some_iff.1 (nth_some h1 h2)).1
theorem esBlk_ok {args : List AVal} {m : List AM.Item} {e : Eff} (h : esBlk args m = some e) (hn : e.need) : EffOk Try.prog 98 args m e := by
  unfold esBlk at h
  split at h
  · rename_i t _ u _ i lo hi e' x before
    split at h
    · rename_i a b ht
      split at h
      · rename_i K1 xs K2 ys ha hb
        have hta : t ≠ a := by intro e; subst e; rw [ht] at ha; cases ha
        have htb : t ≠ b := by intro e; subst e; rw [ht] at hb; cases hb
        have l1 := nth_lt ht (fun e => by cases e)
        have l2 := nth_lt ha (fun e => by cases e)
        have l3 := nth_lt hb (fun e => by cases e)
        split at h
        · rename_i b'
          split at h
          · rename_i hbb
            have hbb := Nat.eq_of_beq_eq_true hbb
            subst hbb
            cases h
            obtain ⟨hab, rfl, rfl, hx, hy⟩ := hn
            intro m2 hl hag
            refine TripleF.std ?_
            refine eff_add (need := True) (blockers_q xs ys ⟨u, i, lo, hi, e', x⟩ hx) [t, a, b] rfl rfl (fun m2 hag => ⟨rfl, by rw [hag t (by simp [memb])]; exact ht, by rw [hag a (by simp [memb, bne_beq (Ne.symm hta)])]; exact ha, by rw [hag b (by simp [memb, bne_beq (Ne.symm htb), bne_beq (Ne.symm hab)])]; exact hb, trivial⟩)
              (by simp [apartP, apart1, bne_beq hta, bne_beq htb, bne_beq hab]) (by simp [Nat.blt_eq, l1, l2, l3]) (fun n => by rw [castL_eq, castL_eq]; rfl) (fun n => rfl) m2 hl hag
          · cases h
        · rename_i b' p
          split at h
          · rename_i hbb
            have hbb := Nat.eq_of_beq_eq_true hbb
            subst hbb
            cases h
            obtain ⟨hab, rfl, rfl, hx, hy, hp⟩ := hn
            intro m2 hl hag
            refine TripleF.std ?_
            refine eff_add (need := True) (blockers_s xs ys ⟨u, i, lo, hi, e', x⟩ p hp hy hx) [t, a, b] rfl rfl (fun m2 hag => ⟨rfl, by rw [hag t (by simp [memb])]; exact ht, by rw [hag a (by simp [memb, bne_beq (Ne.symm hta)])]; exact ha, by rw [hag b (by simp [memb, bne_beq (Ne.symm htb), bne_beq (Ne.symm hab)])]; exact hb, trivial⟩)
              (by simp [apartP, apart1, bne_beq hta, bne_beq htb, bne_beq hab]) (by simp [Nat.blt_eq, l1, l2, l3]) (fun n => by rw [castL_eq, castL_eq]; rfl) (fun n => rfl) m2 hl hag
          · cases h
        · cases h
      · cases h
    · cases h
  · cases h
end Go.Proofs.Ytljokmmgkecjbaa
