/- Lemmas for the claim's theorem. -/
import Derived.WalkKit
import Derived.Maps.AppendAt
import Derived.Maps.RangeRun
import Derived.MapKept
import Derived.Laws.Tables
import Derived.Laws.AppendOwnNone
import Derived.Laws.IdiomStrings
import Derived.Laws.BytesArg
set_option linter.unusedVariables false
set_option linter.unusedSimpArgs false
namespace Go.AM
open Go

/-! ### Abstract values: one cell (Sc), any value (AVal). Tokens (Nat) stand for blocks; `env` tells each token's value. -/
inductive Sc where
  | int (lit : Bool) (k : IntKind) (n : Int)
  | bool (b : Bool)
  | lb (b : Bool)
  | str (s : ByteArray)
  | undef
  | val (v : Value)
  | h (t : Nat)
  | fld (t off : Nat)
  | elt (t sz i off : Nat)
  | fn (f : Nat) (caps : List (Nat × Nat))
  | bsl (t off n : Nat)
  | sub (t sz off n : Nat)
  | tail (t sz off n : Nat)

inductive AVal where
  | sc (x : Sc)
  | agg (cs : List Sc)
  | tup (vs : List (Bool × List Sc))
  | any

def capRep (env : List Value) (p : Nat × Nat) (v : Value) : Prop :=
  ∃ b, env[p.1]? = some (.pointer (some ⟨b, 0, none⟩)) ∧ v = .pointer (some ⟨b, p.2, none⟩)

def capsRep (env : List Value) : List (Nat × Nat) → List Value → Prop
  | [], vs => vs = []
  | p :: ps, vs => ∃ v vs', vs = v :: vs' ∧ capRep env p v ∧ capsRep env ps vs'

def SRep (env : List Value) : Sc → Value → Prop
  | .int _ k n, v => v = .int k n
  | .bool b, v => v = .bool b
  | .lb b, v => v = .bool b
  | .str s, v => v = .string s
  | .undef, v => v = .tuple #[]
  | .val x, v => v = x
  | .h t, v => env[t]? = some v ∧ v.oneCell' = true
  | .fld t off, v => ∃ b, env[t]? = some (.pointer (some ⟨b, 0, none⟩)) ∧ v = .pointer (some ⟨b, off, none⟩)
  | .elt t sz i off, v => ∃ b o n c, env[t]? = some (.slice (some ⟨b, o, none⟩) n c) ∧ i < n ∧ v = .pointer (some ⟨b, o + (i * sz + off), none⟩)
  | .fn f caps, v => ∃ vs, v = .func (.func f) #[] ⟨vs⟩ ∧ capsRep env caps vs
  | .bsl t off n, v => ∃ b, env[t]? = some (.pointer (some ⟨b, 0, none⟩)) ∧ v = .slice (some ⟨b, off, none⟩) n n
  | .sub t sz off n, v => ∃ A n0 c, env[t]? = some (.slice A n0 c) ∧ off + n ≤ n0 ∧ v = .slice (if c = off then A else A.map (fun a => a.add (off * sz))) n (c - off)
  | .tail t sz off n, v => ∃ A n0 c, env[t]? = some (.slice A n0 c) ∧ off + n ≤ c ∧ v = .slice (if c = off then A else A.map (fun a => a.add (off * sz))) n (c - off)

def SRepL (env : List Value) : List Sc → List Value → Prop
  | [], vs => vs = []
  | a :: as, vs => ∃ v vs', vs = v :: vs' ∧ SRep env a v ∧ SRepL env as vs'

def TRep (env : List Value) (x : Bool × List Sc) (v : Value) : Prop :=
  match x with
  | (true, cs) => ∃ vs, v = .agg ⟨vs⟩ ∧ SRepL env cs vs
  | (false, [s]) => SRep env s v
  | (false, _) => False

def TRepL (env : List Value) : List (Bool × List Sc) → List Value → Prop
  | [], vs => vs = []
  | a :: as, vs => ∃ v vs', vs = v :: vs' ∧ TRep env a v ∧ TRepL env as vs'

def Rep (env : List Value) : AVal → Value → Prop
  | .sc x, v => SRep env x v
  | .agg cs, v => ∃ vs, v = .agg ⟨vs⟩ ∧ SRepL env cs vs
  | .tup xs, v => ∃ vs, v = .tuple ⟨vs⟩ ∧ TRepL env xs vs
  | .any, _ => True

def RepL (env : List Value) : List AVal → List Value → Prop
  | [], vs => vs = []
  | a :: as, vs => ∃ v vs', vs = v :: vs' ∧ Rep env a v ∧ RepL env as vs'

/-! ### more tokens: what was told stays told -/
def Ext (env env' : List Value) : Prop := ∀ (t : Nat) (v : Value), env[t]? = some v → env'[t]? = some v

theorem Ext.refl (env : List Value) : Ext env env := fun _ _ h => h
theorem Ext.trans {a b c : List Value} (h : Ext a b) (k : Ext b c) : Ext a c := fun t v x => k t v (h t v x)
theorem Ext.append (env more : List Value) : Ext env (env ++ more) := fun t v h => by
  rw [List.getElem?_append_left (by have := List.getElem?_eq_some_iff.1 h; exact this.1)]; exact h

/-- a renaming of tokens from one environment into another -/
def Ren (g : Nat → Nat) (env env' : List Value) : Prop := ∀ (t : Nat) (v : Value), env[t]? = some v → env'[g t]? = some v
theorem Ext.ren {env env' : List Value} (h : Ext env env') : Ren id env env' := h

def Sc.ren (g : Nat → Nat) : Sc → Sc
  | .h t => .h (g t)
  | .fld t off => .fld (g t) off
  | .elt t sz i off => .elt (g t) sz i off
  | .fn f caps => .fn f (caps.map fun p => (g p.1, p.2))
  | .bsl t off n => .bsl (g t) off n
  | .sub t sz off n => .sub (g t) sz off n
  | .tail t sz off n => .tail (g t) sz off n
  | x => x

def AVal.ren (g : Nat → Nat) : AVal → AVal
  | .sc x => .sc (x.ren g)
  | .agg cs => .agg (cs.map (Sc.ren g))
  | .tup xs => .tup (xs.map fun x => (x.1, x.2.map (Sc.ren g)))
  | .any => .any

theorem capsRep.ren {g : Nat → Nat} {env env' : List Value} (hg : Ren g env env') : ∀ {ps vs}, capsRep env ps vs → capsRep env' (ps.map fun p => (g p.1, p.2)) vs
  | [], _, h => h
  | p :: ps, _, h => by
    obtain ⟨v, vs', rfl, ⟨b, hb, hv⟩, hr⟩ := h
    exact ⟨v, vs', rfl, ⟨b, hg _ _ hb, hv⟩, capsRep.ren hg hr⟩

theorem SRep.ren {g : Nat → Nat} {env env' : List Value} (hg : Ren g env env') : ∀ {x v}, SRep env x v → SRep env' (x.ren g) v
  | .int .., _, h => h
  | .bool _, _, h => h
  | .lb _, _, h => h
  | .str _, _, h => h
  | .undef, _, h => h
  | .val _, _, h => h
  | .h _, _, h => ⟨hg _ _ h.1, h.2⟩
  | .fld .., _, ⟨b, hb, hv⟩ => ⟨b, hg _ _ hb, hv⟩
  | .elt .., _, ⟨b, o, n, c, hb, hi, hv⟩ => ⟨b, o, n, c, hg _ _ hb, hi, hv⟩
  | .fn .., _, ⟨vs, hv, hc⟩ => ⟨vs, hv, hc.ren hg⟩
  | .bsl .., _, ⟨b, hb, hv⟩ => ⟨b, hg _ _ hb, hv⟩
  | .sub .., _, ⟨A, n0, c, hb, hi, hv⟩ => ⟨A, n0, c, hg _ _ hb, hi, hv⟩
  | .tail .., _, ⟨A, n0, c, hb, hi, hv⟩ => ⟨A, n0, c, hg _ _ hb, hi, hv⟩

theorem SRepL.ren {g : Nat → Nat} {env env' : List Value} (hg : Ren g env env') : ∀ {xs vs}, SRepL env xs vs → SRepL env' (xs.map (Sc.ren g)) vs
  | [], _, h => h
  | _ :: _, _, h => by
    obtain ⟨v, vs', rfl, h1, h2⟩ := h
    exact ⟨v, vs', rfl, h1.ren hg, h2.ren hg⟩

theorem TRep.ren {g : Nat → Nat} {env env' : List Value} (hg : Ren g env env') : ∀ {x v}, TRep env x v → TRep env' (x.1, x.2.map (Sc.ren g)) v
  | (true, _), _, ⟨vs, hv, h⟩ => ⟨vs, hv, h.ren hg⟩
  | (false, [_]), _, h => SRep.ren hg h
  | (false, []), _, h => h.elim
  | (false, _ :: _ :: _), _, h => h.elim

theorem TRepL.ren {g : Nat → Nat} {env env' : List Value} (hg : Ren g env env') : ∀ {xs vs}, TRepL env xs vs → TRepL env' (xs.map fun x => (x.1, x.2.map (Sc.ren g))) vs
  | [], _, h => h
  | _ :: _, _, h => by
    obtain ⟨v, vs', rfl, h1, h2⟩ := h
    exact ⟨v, vs', rfl, h1.ren hg, h2.ren hg⟩

theorem Rep.ren {g : Nat → Nat} {env env' : List Value} (hg : Ren g env env') : ∀ {x v}, Rep env x v → Rep env' (x.ren g) v
  | .sc _, _, h => SRep.ren hg h
  | .agg _, _, ⟨vs, hv, h⟩ => ⟨vs, hv, h.ren hg⟩
  | .tup _, _, ⟨vs, hv, h⟩ => ⟨vs, hv, h.ren hg⟩
  | .any, _, _ => trivial

theorem RepL.ren {g : Nat → Nat} {env env' : List Value} (hg : Ren g env env') : ∀ {xs vs}, RepL env xs vs → RepL env' (xs.map (AVal.ren g)) vs
  | [], _, h => h
  | _ :: _, _, h => by
    obtain ⟨v, vs', rfl, h1, h2⟩ := h
    exact ⟨v, vs', rfl, h1.ren hg, h2.ren hg⟩

theorem Sc.ren_id (x : Sc) : x.ren id = x := by cases x <;> simp [Sc.ren]
theorem AVal.ren_id (x : AVal) : x.ren id = x := by
  have h : Sc.ren id = id := funext Sc.ren_id
  cases x <;> simp [AVal.ren, h, Sc.ren_id]

theorem SRep.ext {env env' : List Value} (he : Ext env env') {x v} (h : SRep env x v) : SRep env' x v := by
  have := h.ren he.ren; rwa [Sc.ren_id] at this
theorem SRepL.ext {env env' : List Value} (he : Ext env env') {x v} (h : SRepL env x v) : SRepL env' x v := by
  have := h.ren he.ren
  rwa [show Sc.ren id = id from funext Sc.ren_id, List.map_id] at this
theorem Rep.ext {env env' : List Value} (he : Ext env env') {x v} (h : Rep env x v) : Rep env' x v := by
  have := h.ren he.ren; rwa [AVal.ren_id] at this
theorem RepL.ext {env env' : List Value} (he : Ext env env') {x v} (h : RepL env x v) : RepL env' x v := by
  have := h.ren he.ren
  rwa [show AVal.ren id = id from funext AVal.ren_id, List.map_id] at this

theorem SRepL.length {env : List Value} : ∀ {xs vs}, SRepL env xs vs → vs.length = xs.length
  | [], _, h => by cases h; rfl
  | _ :: _, _, h => by obtain ⟨v, vs', rfl, _, h2⟩ := h; simp [h2.length]
theorem RepL.length {env : List Value} : ∀ {xs vs}, RepL env xs vs → vs.length = xs.length
  | [], _, h => by cases h; rfl
  | _ :: _, _, h => by obtain ⟨v, vs', rfl, _, h2⟩ := h; simp [h2.length]
theorem SRepL.get {env : List Value} : ∀ {xs vs} (i : Nat) {x}, SRepL env xs vs → xs[i]? = some x → ∃ v, vs[i]? = some v ∧ SRep env x v
  | [], _, i, x, h, hx => by simp at hx
  | _ :: _, _, 0, x, h, hx => by obtain ⟨v, vs', rfl, h1, _⟩ := h; simp at hx; subst hx; exact ⟨v, rfl, h1⟩
  | _ :: _, _, i + 1, x, h, hx => by
    obtain ⟨v, vs', rfl, _, h2⟩ := h
    exact SRepL.get i h2 (by simpa using hx)
theorem RepL.get {env : List Value} : ∀ {xs vs} (i : Nat) {x}, RepL env xs vs → xs[i]? = some x → ∃ v, vs[i]? = some v ∧ Rep env x v
  | [], _, i, x, h, hx => by simp at hx
  | _ :: _, _, 0, x, h, hx => by obtain ⟨v, vs', rfl, h1, _⟩ := h; simp at hx; subst hx; exact ⟨v, rfl, h1⟩
  | _ :: _, _, i + 1, x, h, hx => by
    obtain ⟨v, vs', rfl, _, h2⟩ := h
    exact RepL.get i h2 (by simpa using hx)
theorem SRepL.set {env : List Value} : ∀ {xs vs} (i : Nat) {x v}, SRepL env xs vs → SRep env x v → SRepL env (xs.set i x) (vs.set i v)
  | [], _, i, x, v, h, hx => by cases h; simp [SRepL]
  | _ :: _, _, 0, x, v, h, hx => by obtain ⟨u, vs', rfl, _, h2⟩ := h; exact ⟨v, vs', rfl, hx, h2⟩
  | _ :: _, _, i + 1, x, v, h, hx => by
    obtain ⟨u, vs', rfl, h1, h2⟩ := h
    exact ⟨u, vs'.set i v, rfl, h1, h2.set i hx⟩
theorem RepL.set {env : List Value} : ∀ {xs vs} (i : Nat) {x v}, RepL env xs vs → Rep env x v → RepL env (xs.set i x) (vs.set i v)
  | [], _, i, x, v, h, hx => by cases h; simp [RepL]
  | _ :: _, _, 0, x, v, h, hx => by obtain ⟨u, vs', rfl, _, h2⟩ := h; exact ⟨v, vs', rfl, hx, h2⟩
  | _ :: _, _, i + 1, x, v, h, hx => by
    obtain ⟨u, vs', rfl, h1, h2⟩ := h
    exact ⟨u, vs'.set i v, rfl, h1, h2.set i hx⟩
theorem SRepL.append {env : List Value} : ∀ {xs vs ys us}, SRepL env xs vs → SRepL env ys us → SRepL env (xs ++ ys) (vs ++ us)
  | [], _, _, _, h, k => by cases h; exact k
  | _ :: _, _, _, _, h, k => by
    obtain ⟨u, vs', rfl, h1, h2⟩ := h
    exact ⟨u, _, rfl, h1, h2.append k⟩
theorem SRepL.drop {env : List Value} : ∀ {xs vs} (i : Nat), SRepL env xs vs → SRepL env (xs.drop i) (vs.drop i)
  | [], _, i, h => by cases h; simp [SRepL]
  | _ :: _, _, 0, h => h
  | _ :: _, _, i + 1, h => by
    obtain ⟨u, vs', rfl, h1, h2⟩ := h
    exact h2.drop i
theorem SRepL.take {env : List Value} : ∀ {xs vs} (i : Nat), SRepL env xs vs → SRepL env (xs.take i) (vs.take i)
  | [], _, i, h => by cases h; simp [SRepL]
  | _ :: _, _, 0, h => rfl
  | _ :: _, _, i + 1, h => by
    obtain ⟨u, vs', rfl, h1, h2⟩ := h
    exact ⟨u, _, rfl, h1, h2.take i⟩
/-! each abstract value of one cell is one cell -/
def Sc.one : Sc → Bool
  | .undef => false
  | .val u => u.oneCell'
  | _ => true
theorem SRep.one {env : List Value} : ∀ {x v}, SRep env x v → x.one = true → v.oneCell' = true
  | .int .., _, h, _ => by cases h; rfl
  | .bool _, _, h, _ => by cases h; rfl
  | .lb _, _, h, _ => by cases h; rfl
  | .str _, _, h, _ => by cases h; rfl
  | .undef, _, h, k => by cases k
  | .val u, _, h, k => by cases h; exact k
  | .h t, _, h, _ => h.2
  | .fld .., _, ⟨_, _, h⟩, _ => by cases h; rfl
  | .elt .., _, ⟨_, _, _, _, _, _, h⟩, _ => by cases h; rfl
  | .fn .., _, ⟨_, h, _⟩, _ => by cases h; rfl
  | .bsl .., _, ⟨_, _, h⟩, _ => by cases h; rfl
  | .sub .., _, ⟨_, _, _, _, _, h⟩, _ => by cases h; rfl
  | .tail .., _, ⟨_, _, _, _, _, h⟩, _ => by cases h; rfl
theorem SRepL.one {env : List Value} : ∀ {xs vs}, SRepL env xs vs → xs.all Sc.one = true → ∀ u ∈ vs, u.oneCell' = true
  | [], _, h, _ => by cases h; simp
  | _ :: _, _, h, k => by
    obtain ⟨v, vs', rfl, h1, h2⟩ := h
    simp only [List.all_cons, Bool.and_eq_true] at k
    intro u hu
    cases hu with
    | head => exact h1.one k.1
    | tail _ hm => exact h2.one k.2 u hm

/-! lists by place, in a form that computes -/
def nth {α : Type _} : List α → Nat → α → α
  | [], _, d => d
  | a :: _, 0, _ => a
  | _ :: l, i + 1, d => nth l i d
theorem nth_eq {α : Type _} : ∀ (l : List α) (i : Nat) (d : α), nth l i d = l.getD i d
  | [], _, _ => by simp [nth]
  | _ :: _, 0, _ => by simp [nth]
  | _ :: l, i + 1, d => by simp [nth, nth_eq l i d]
def nth? {α : Type _} : List α → Nat → Option α
  | [], _ => none
  | a :: _, 0 => some a
  | _ :: l, i + 1 => nth? l i
theorem nth?_eq {α : Type _} : ∀ (l : List α) (i : Nat), nth? l i = l[i]?
  | [], _ => by simp [nth?]
  | _ :: _, 0 => by simp [nth?]
  | _ :: l, i + 1 => by simp [nth?, nth?_eq l i]
def setK {α β : Type _} : List α → Nat → α → (List α → β) → β
  | [], _, _, k => k []
  | _ :: l, 0, x, k => k (x :: l)
  | a :: l, i + 1, x, k => setK l i x fun l' => k (a :: l')
theorem setK_eq {α β : Type _} : ∀ (l : List α) (i : Nat) (x : α) (k : List α → β), setK l i x k = k (l.set i x)
  | [], _, _, _ => by simp [setK]
  | _ :: _, 0, _, _ => by simp [setK]
  | _ :: l, i + 1, x, k => by simp [setK, setK_eq l i x]
def snocK {α β : Type _} : List α → α → (List α → Nat → β) → β
  | [], x, k => k [x] 0
  | a :: l, x, k => snocK l x fun l' n => k (a :: l') (n + 1)
theorem snocK_eq {α β : Type _} : ∀ (l : List α) (x : α) (k : List α → Nat → β), snocK l x k = k (l ++ [x]) l.length
  | [], _, _ => by simp [snocK]
  | _ :: l, x, k => by simp [snocK, snocK_eq l x]

/-! a value brought to its head before it is handed on -/
def forceN (n : Nat) (K : Nat → Prop) : Prop := match n with
  | 0 => K 0
  | n => K n
def forceS (x : Sc) (K : Sc → Prop) : Prop := match x with
  | .int true k n => K (.int true k n)
  | .int false k n => K (.int false k n)
  | .bool b => K (.bool b)
  | .lb true => K (.lb true)
  | .lb false => K (.lb false)
  | .str s => K (.str s)
  | .undef => K .undef
  | .val v => K (.val v)
  | .h t => K (.h t)
  | .fld t o => K (.fld t o)
  | .elt t sz i o => K (.elt t sz i o)
  | .fn f c => K (.fn f c)
  | .bsl t o n => K (.bsl t o n)
  | .sub t sz o n => K (.sub t sz o n)
  | .tail t sz o n => K (.tail t sz o n)
theorem forceS_eq (x : Sc) (K : Sc → Prop) : forceS x K = K x := by
  cases x <;> first | rfl | (rename_i b; cases b <;> rfl) | (rename_i b _ _; cases b <;> rfl)
def forceL (xs : List Sc) (K : List Sc → Prop) : Prop := match xs with
  | [] => K []
  | x :: xs => forceS x fun x => forceL xs fun xs => K (x :: xs)
theorem forceL_eq : ∀ (xs : List Sc) (K : List Sc → Prop), forceL xs K = K xs
  | [], _ => rfl
  | x :: xs, K => by simp only [forceL, forceS_eq, forceL_eq xs]
def forceA (x : AVal) (K : AVal → Prop) : Prop := match x with
  | .sc s => forceS s fun s => K (.sc s)
  | .agg cs => forceL cs fun cs => K (.agg cs)
  | .tup xs => K (.tup xs)
  | .any => K .any
theorem forceA_eq (x : AVal) (K : AVal → Prop) : forceA x K = K x := by
  cases x <;> simp only [forceA, forceS_eq, forceL_eq]

def forceTs (ts : List AVal) (K : List AVal → Prop) : Prop := match ts with
  | [] => K []
  | x :: xs => forceA x fun x => forceTs xs fun xs => K (x :: xs)
theorem forceTs_eq : ∀ (ts : List AVal) (K : List AVal → Prop), forceTs ts K = K ts
  | [], _ => rfl
  | x :: xs, K => by simp only [forceTs, forceA_eq, forceTs_eq xs]
def forceNs (l : List Nat) (K : List Nat → Prop) : Prop := match l with
  | [] => K []
  | x :: xs => forceNs xs fun xs => K (x :: xs)
theorem forceNs_eq : ∀ (l : List Nat) (K : List Nat → Prop), forceNs l K = K l
  | [], _ => rfl
  | x :: xs, K => by simp only [forceNs, forceNs_eq xs]

end Go.AM

namespace Go.AM
open Go Go.MapKept

/-- An element type of slices: Lean's values and their cells. -/
structure Kind : Type 1 where
  T : Type
  d : T
  sz : Nat
  elem : TypeId
  enc : T → List Value
  encA : T → List Sc
  dec : List Sc → Option T
  pos : 0 < sz
  len : ∀ x, (enc x).length = sz
  one : ∀ x, ∀ u ∈ enc x, u.oneCell' = true
  rep : ∀ env x vs, SRepL env (encA x) vs ↔ vs = enc x
  dec_ok : ∀ cs x, dec cs = some x → ∀ env vs, SRepL env cs vs → vs = enc x

def Kind.cells (K : Kind) (xs : List K.T) : List Value := xs.flatMap K.enc

theorem Kind.cells_length (K : Kind) (xs : List K.T) : (K.cells xs).length = xs.length * K.sz := by
  unfold Kind.cells
  induction xs with
  | nil => simp
  | cons x xs ih => simp [ih, K.len, Nat.add_mul, Nat.add_comm]
theorem Kind.cells_append (K : Kind) (xs ys : List K.T) : K.cells (xs ++ ys) = K.cells xs ++ K.cells ys := by simp [Kind.cells]
theorem Kind.cells_get (K : Kind) : ∀ (xs : List K.T) (i j : Nat), i < xs.length → j < K.sz → (K.cells xs)[i * K.sz + j]? = (K.enc (xs.getD i K.d))[j]?
  | [], i, j, h, _ => by simp at h
  | x :: xs, 0, j, _, hj => by
    simp only [Kind.cells, List.flatMap_cons, Nat.zero_mul, Nat.zero_add, List.getD_cons_zero]
    rw [List.getElem?_append_left (by rw [K.len]; exact hj)]
  | x :: xs, i + 1, j, h, hj => by
    have ih := Kind.cells_get K xs i j (by simpa using h) hj
    simp only [Kind.cells, List.flatMap_cons, List.getD_cons_succ] at *
    rw [List.getElem?_append_right (by rw [K.len, Nat.add_mul]; omega), K.len, ← ih]
    congr 1
    rw [Nat.add_mul]; omega

/-- A thing in memory of which the machine knows only that it lives on while its blocks stay. -/
structure ObjP where
  R : Value → World → (Nat → Prop) → Prop
  stable : ∀ v w w' fp, R v w fp → (∀ k, fp k → w'.heap[k]? = w.heap[k]?) → R v w' fp

/-- A kind of maps: keys and values of Lean's, and their cells. -/
structure MKind : Type 1 where
  K : Type
  V : Type
  kt : TypeId
  vt : TypeId
  desc : TypeDesc
  ek : K → Value
  ekA : K → Sc
  decK : Sc → Option K
  ev : V → Value
  evA : V → Bool × List Sc
  decV : AVal → Option V
  zero : V
  eqb : K → K → Bool
  eqb_ok : ∀ a b, eqb a b = true ↔ a = b
  inj : ∀ a b, ek a = ek b → a = b
  isk : ∀ k, IsKey desc (ek k)
  repK : ∀ env k, SRep env (ekA k) (ek k)
  repV : ∀ env x, TRep env (evA x) (ev x)
  decK_ok : ∀ x k, decK x = some k → ∀ env v, SRep env x v → v = ek k
  decV_ok : ∀ x y, decV x = some y → ∀ env v, Rep env x v → v = ev y

def MKind.kv (e : MapEntry) : Value × Value := (e.key, e.val)
def MKind.enc (M : MKind) (p : M.K × M.V) : Value × Value := (M.ek p.1, M.ev p.2)
def MapIs (M : MKind) (l : List (M.K × M.V)) (es : Array MapEntry) (clock : Nat) : Prop := es.toList.map MKind.kv = l.map M.enc ∧ Stamped es clock

inductive Item : Type 1 where
  | mp (nn : Bool) (M : MKind) (l : List (M.K × M.V))
  | itm (M : MKind) (left : List (M.K × M.V)) (cur : Option (M.K × M.V))
  | gone
  | box (T : TypeId) (cells : List Sc)
  | slc (K : Kind) (xs : List K.T)
  | slx (K : Kind) (xs : List K.T) (n : Nat)
  | ro (K : Kind) (xs : List K.T)
  | rob (K : Kind) (xs : List K.T)
  | obj (O : ObjP)

structure Keep (F : Nat → Prop) (w0 w : World) : Prop where
  os : w.os = w0.os
  tape : w.tape = w0.tape
  output : w.output = w0.output
  size : w0.heap.size ≤ w.heap.size
  block : ∀ k, k < w0.heap.size → ¬ F k → w.heap[k]? = w0.heap[k]?

theorem Keep.refl (F : Nat → Prop) (w : World) : Keep F w w := ⟨rfl, rfl, rfl, Nat.le_refl _, fun _ _ _ => rfl⟩
theorem Keep.trans {F F' : Nat → Prop} {a b c : World} (h : Keep F a b) (k : Keep F' b c) (hF : ∀ i, i < a.heap.size → F' i → F i) : Keep F a c :=
  ⟨k.os.trans h.os, k.tape.trans h.tape, k.output.trans h.output, Nat.le_trans h.size k.size, fun i hi hn =>
    (k.block i (Nat.lt_of_lt_of_le hi h.size) (fun hf => hn (hF i hi hf))).trans (h.block i hi hn)⟩

/-- no cell of a row is frozen -/
def free (fr : Nat × Nat) (n : Nat) : Prop := ∀ j, j < n → ¬ (fr.1 ≤ j ∧ j < fr.2)

def RoRow (w0 : World) (F : Nat → Prop) (K : Kind) (xs : List K.T) (v : Value) : Prop :=
  ∃ A c, v = .slice A xs.length c ∧ (xs.length ≤ maxLen ∧ xs.length ≤ c) ∧ (A = none → xs = [] ∧ c = 0) ∧ (xs ≠ [] → ∃ b o, A = some ⟨b, o, none⟩ ∧ ¬ F b ∧ b < w0.heap.size ∧
    ∀ j u, (K.cells xs)[j]? = some u → w0.cell? ⟨b, o + j, none⟩ = some u)

def ItemH (w0 : World) (F : Nat → Prop) (env : List Value) (w : World) (v : Value) (fp : Nat → Prop) : Item → Prop
  | .gone => ∀ k, ¬ fp k
  | .box T cells => ∃ b cs fr, v = .pointer (some ⟨b, 0, none⟩) ∧ w.heap[b]? = some (.cells ⟨cs⟩ T fr) ∧ SRepL env cells cs ∧ (∀ u ∈ cs, u.oneCell' = true) ∧ free fr cs.length ∧ (∀ k, fp k ↔ k = b)
  | .slc K xs => w.ownsRow 0 K.elem K.sz v xs.length (K.cells xs) ∧ (∀ k, fp k ↔ v.ownBlock = some k)
  | .slx K xs n => (w.ownsRow 0 K.elem K.sz v xs.length (K.cells xs) ∧ ∃ A l c, v = .slice A l c ∧ n ≤ c) ∧ (∀ k, fp k ↔ v.ownBlock = some k)
  | .ro K xs => (∀ k, ¬ fp k) ∧ RoRow w0 F K xs v
  | .rob K xs => ∃ b c cs fr, v = .slice (some ⟨b, 0, none⟩) xs.length c ∧ (xs.length ≤ maxLen ∧ xs.length ≤ c) ∧ w.heap[b]? = some (.cells ⟨cs⟩ K.elem fr) ∧ K.cells xs <+: cs ∧ (∀ k, fp k ↔ k = b)
  | .obj O => O.R v w fp
  | .mp nn M l => (∃ b es clock, v = .map (some b) ∧ w.heap[b]? = some (.map es clock) ∧ MapIs M l es clock ∧ (∀ k, fp k ↔ k = b)) ∨ (nn = false ∧ v = .map none ∧ l = [] ∧ ∀ k, ¬ fp k)
  | .itm M left cur => ∃ r, v = .pointer (some ⟨r, 0, none⟩) ∧
    ((∃ b seen es clock, w.heap[r]? = some (.mapIter (some b) clock seen clock) ∧ w.heap[b]? = some (.map es clock) ∧ (leftOf es seen).toList.map MKind.kv = left.map M.enc ∧ Stamped es clock ∧ r ≠ b ∧
      (∀ c, cur = some c → ∃ (e : MapEntry) (seen' : Array Nat), seen = seen'.push e.born ∧ e ∈ es.toList ∧ MKind.kv e = M.enc c) ∧ (∀ k, fp k ↔ k = r ∨ k = b)) ∨
    (w.heap[r]? = some (.mapIter none 0 #[] 0) ∧ left = [] ∧ cur = none ∧ (∀ k, fp k ↔ k = r)))

theorem heap_ownsRow {w w' : World} {e : TypeId} {size n : Nat} {v : Value} {xs : List Value} (h : w.ownsRow 0 e size v n xs)
    (hk : ∀ k, v.ownBlock = some k → w'.heap[k]? = w.heap[k]?) : w'.ownsRow 0 e size v n xs := by
  obtain ⟨h1, h2 | ⟨g, cap, cur, rfl, hb, hg, r⟩⟩ := h
  · exact ⟨h1, .inl h2⟩
  · exact ⟨h1, .inr ⟨g, cap, cur, rfl, hb, by rw [hk g rfl]; exact hg, r⟩⟩

theorem ItemH.stable {w0 F env w w' v fp} {it : Item} (h : ItemH w0 F env w v fp it) (hk : ∀ k, fp k → w'.heap[k]? = w.heap[k]?) : ItemH w0 F env w' v fp it := by
  cases it with
  | gone => exact h
  | box T cells =>
    obtain ⟨b, cs, fr, hv, hb, r, h1, hf, hfp⟩ := h
    exact ⟨b, cs, fr, hv, by rw [hk b ((hfp b).2 rfl)]; exact hb, r, h1, hf, hfp⟩
  | slc K xs => exact ⟨heap_ownsRow h.1 fun k e => hk k ((h.2 k).2 e), h.2⟩
  | slx K xs n => exact ⟨⟨heap_ownsRow h.1.1 fun k e => hk k ((h.2 k).2 e), h.1.2⟩, h.2⟩
  | ro K xs => exact h
  | rob K xs =>
    obtain ⟨b, c, cs, fr, hv, hl, hb, hp, hfp⟩ := h
    exact ⟨b, c, cs, fr, hv, hl, by rw [hk b ((hfp b).2 rfl)]; exact hb, hp, hfp⟩
  | obj O => exact O.stable _ _ _ _ h hk
  | mp nn M l =>
    rcases h with ⟨b, es, clock, hv, hb, hi, hfp⟩ | h
    · exact .inl ⟨b, es, clock, hv, by rw [hk b ((hfp b).2 rfl)]; exact hb, hi, hfp⟩
    · exact .inr h
  | itm M left cur =>
    obtain ⟨r, hv, h⟩ := h
    refine ⟨r, hv, ?_⟩
    rcases h with ⟨b, seen, es, clock, hr, hb, hl, hs, hne, hc, hfp⟩ | ⟨hr, hl, hc, hfp⟩
    · exact .inl ⟨b, seen, es, clock, by rw [hk r ((hfp r).2 (.inl rfl))]; exact hr, by rw [hk b ((hfp b).2 (.inr rfl))]; exact hb, hl, hs, hne, hc, hfp⟩
    · exact .inr ⟨by rw [hk r ((hfp r).2 rfl)]; exact hr, hl, hc, hfp⟩

def Item.ren (g : Nat → Nat) : Item → Item
  | .box T cells => .box T (cells.map (Sc.ren g))
  | x => x

theorem ItemH.ren {w0 F env w v fp} {it : Item} (h : ItemH w0 F env w v fp it) {g : Nat → Nat} {env' : List Value} (hg : Ren g env env') : ItemH w0 F env' w v fp (it.ren g) := by
  cases it with
  | box T cells =>
    obtain ⟨b, cs, fr, hv, hb, r, h1, hf, hfp⟩ := h
    exact ⟨b, cs, fr, hv, hb, r.ren hg, h1, hf, hfp⟩
  | gone => exact h
  | slc K xs => exact h
  | slx K xs n => exact h
  | ro K xs => exact h
  | rob K xs => exact h
  | obj O => exact h
  | mp _ _ _ => exact h
  | itm _ _ _ => exact h

theorem Item.ren_id (x : Item) : x.ren id = x := by
  cases x <;> simp [Item.ren, show Sc.ren id = id from funext Sc.ren_id]

theorem ItemH.ext {w0 F env w v fp} {it : Item} (h : ItemH w0 F env w v fp it) {env' : List Value} (hg : Ext env env') : ItemH w0 F env' w v fp it := by
  have := h.ren hg.ren; rwa [Item.ren_id] at this

/-- The memory that the tokens tell of. -/
structure MemF (w0 : World) (F : Nat → Prop) (env : List Value) (m : List Item) (w : World) (fp : Nat → Nat → Prop) : Prop where
  len : env.length = m.length
  keep : Keep F w0 w
  item : ∀ (t : Nat) (it : Item) (v : Value), m[t]? = some it → env[t]? = some v → ItemH w0 F env w v (fp t) it
  out : ∀ (t : Nat), m.length ≤ t → ∀ k, ¬ fp t k
  apart : ∀ (t u k : Nat), fp t k → fp u k → t = u
  within : ∀ (t k : Nat), fp t k → (F k ∨ w0.heap.size ≤ k) ∧ k < w.heap.size

def MemH (w0 : World) (F : Nat → Prop) (env : List Value) (m : List Item) (w : World) : Prop := ∃ fp, MemF w0 F env m w fp

/-- A step of the world that touches only what one item owns, or new blocks. -/
theorem MemF.touch {w0 F env m w fp} (h : MemF w0 F env m w fp) {w' : World} (T : Nat → Prop) (hT : ∀ k, k < w.heap.size → ¬ T k → w'.heap[k]? = w.heap[k]?)
    (hTF : ∀ k, k < w.heap.size → T k → F k ∨ w0.heap.size ≤ k)
    (os : w'.os = w.os) (tape : w'.tape = w.tape) (output : w'.output = w.output) (size : w.heap.size ≤ w'.heap.size) : Keep F w0 w' :=
  ⟨os.trans h.keep.os, tape.trans h.keep.tape, output.trans h.keep.output, Nat.le_trans h.keep.size size, fun k hk hn => by
    have hk' := Nat.lt_of_lt_of_le hk h.keep.size
    rw [hT k hk' (fun ht => (hTF k hk' ht).elim hn (fun hl => by omega)), h.keep.block k hk hn]⟩

/-- A new item at the end, in new blocks; all else stays. -/
theorem MemF.snoc {w0 F env m w fp} (h : MemF w0 F env m w fp) {w' : World} (hold : ∀ k, k < w.heap.size → w'.heap[k]? = w.heap[k]?)
    (os : w'.os = w.os) (tape : w'.tape = w.tape) (output : w'.output = w.output) (size : w.heap.size ≤ w'.heap.size)
    (v : Value) (it : Item) (q : Nat → Prop) (hq : ∀ k, q k → w.heap.size ≤ k ∧ k < w'.heap.size) (hit : ItemH w0 F (env ++ [v]) w' v q it) :
    MemF w0 F (env ++ [v]) (m ++ [it]) w' (fun t => if t = m.length then q else fp t) := by
  refine ⟨by simp [h.len], h.touch (fun _ => False) (fun k hk _ => hold k hk) (fun _ _ f => f.elim) os tape output size, ?_, ?_, ?_, ?_⟩
  · intro t it' v' hm hv
    by_cases ht : t = m.length
    · subst ht
      simp only [if_true]
      rw [List.getElem?_append_right (Nat.le_refl _)] at hm
      rw [List.getElem?_append_right (by rw [h.len]; exact Nat.le_refl _), h.len] at hv
      simp at hm hv
      subst hm; subst hv
      exact hit
    · simp only [if_neg ht]
      have hlt : t < m.length := by
        have := (List.getElem?_eq_some_iff.1 hm).1
        simp at this; omega
      rw [List.getElem?_append_left hlt] at hm
      rw [List.getElem?_append_left (by rw [h.len]; exact hlt)] at hv
      exact ((h.item t it' v' hm hv).ext (Ext.append _ _)).stable fun k hk => hold k (h.within t k hk).2
  · intro t ht k hk
    simp at ht
    rw [if_neg (by omega)] at hk
    exact h.out t (by omega) k hk
  · intro t u k ht hu
    by_cases h1 : t = m.length <;> by_cases h2 : u = m.length
    · omega
    · rw [if_pos h1] at ht; rw [if_neg h2] at hu
      have := (hq k ht).1; have := (h.within u k hu).2; omega
    · rw [if_neg h1] at ht; rw [if_pos h2] at hu
      have := (hq k hu).1; have := (h.within t k ht).2; omega
    · rw [if_neg h1] at ht; rw [if_neg h2] at hu
      exact h.apart t u k ht hu
  · intro t k hk
    by_cases h1 : t = m.length
    · rw [if_pos h1] at hk
      exact ⟨.inr (Nat.le_trans h.keep.size (hq k hk).1), (hq k hk).2⟩
    · rw [if_neg h1] at hk
      have := h.within t k hk
      exact ⟨this.1, by omega⟩

/-- An item turned in its own blocks; all else stays. -/
theorem MemF.turn {w0 F env m w fp} (h : MemF w0 F env m w fp) {w' : World} (t : Nat) (hold : ∀ k, k < w.heap.size → ¬ fp t k → w'.heap[k]? = w.heap[k]?)
    (os : w'.os = w.os) (tape : w'.tape = w.tape) (output : w'.output = w.output) (size : w.heap.size ≤ w'.heap.size)
    (it : Item) (hit : ∀ v, env[t]? = some v → ItemH w0 F env w' v (fp t) it) :
    MemF w0 F env (m.set t it) w' fp := by
  refine ⟨by simp [h.len], h.touch (fp t) hold (fun k _ hk => (h.within t k hk).1) os tape output size, ?_, ?_, h.apart, fun t k hk => ⟨(h.within t k hk).1, by have := (h.within t k hk).2; omega⟩⟩
  · intro u it' v' hm hv
    by_cases hu : t = u
    · subst hu
      have hlt : t < m.length := by
        have := (List.getElem?_eq_some_iff.1 hm).1
        simpa using this
      rw [List.getElem?_set_self hlt] at hm
      cases hm
      exact hit v' hv
    · rw [List.getElem?_set_ne hu] at hm
      exact (h.item u it' v' hm hv).stable fun k hk => hold k (h.within u k hk).2 (fun ht => hu (h.apart t u k ht hk))
  · intro u hu k hk
    simp at hu
    exact h.out u hu k hk

/-- a draw -/
theorem MemF.same {w0 F env m w fp} (h : MemF w0 F env m w fp) {w' : World} (hold : w'.heap = w.heap)
    (os : w'.os = w.os) (tape : w'.tape = w.tape) (output : w'.output = w.output) : MemF w0 F env m w' fp :=
  ⟨h.len, h.touch (fun _ => False) (fun k _ _ => by rw [hold]) (fun _ _ f => f.elim) os tape output (by rw [hold]; exact Nat.le_refl _),
    fun t it v hm hv => (h.item t it v hm hv).stable fun k _ => by rw [hold], h.out, h.apart, fun t k hk => by rw [hold]; exact h.within t k hk⟩

/-- an item let go -/
theorem MemF.drop {w0 F env m w fp} (h : MemF w0 F env m w fp) (t : Nat) : MemF w0 F env (m.set t .gone) w (fun u => if u = t then fun _ => False else fp u) := by
  refine ⟨by simp [h.len], h.keep, ?_, ?_, ?_, ?_⟩
  · intro u it v hm hv
    by_cases hu : t = u
    · subst hu
      have hlt : t < m.length := by
        have := (List.getElem?_eq_some_iff.1 hm).1
        simpa using this
      rw [List.getElem?_set_self hlt] at hm
      cases hm
      rw [if_pos rfl]
      exact fun _ hf => hf
    · rw [List.getElem?_set_ne hu] at hm
      rw [if_neg (fun e => hu e.symm)]
      exact h.item u it v hm hv
  · intro u hu k hk
    simp at hu
    by_cases e : u = t
    · rw [if_pos e] at hk; exact hk
    · rw [if_neg e] at hk; exact h.out u hu k hk
  · intro a b k ha hb
    by_cases e : a = t
    · rw [if_pos e] at ha; exact ha.elim
    · by_cases e' : b = t
      · rw [if_pos e'] at hb; exact hb.elim
      · rw [if_neg e] at ha; rw [if_neg e'] at hb; exact h.apart a b k ha hb
  · intro u k hk
    by_cases e : u = t
    · rw [if_pos e] at hk; exact hk.elim
    · rw [if_neg e] at hk; exact h.within u k hk

def Item.isGone : Item → Bool
  | .gone => true
  | _ => false
/-- a part of the things: some let go -/
def LeM (m m' : List Item) : Prop := m'.length = m.length ∧ ∀ (t : Nat) (it : Item), m[t]? = some it → it.isGone = false → m'[t]? = some it
theorem LeM.refl (m : List Item) : LeM m m := ⟨rfl, fun _ _ h _ => h⟩

end Go.AM

namespace Go.AM
open Go
variable {P : Program}

theorem add_at (b o n : Nat) : (⟨b, o, none⟩ : Addr).add n = ⟨b, o + n, none⟩ := by
  unfold Addr.add; split
  · rename_i h; subst h; rfl
  · rfl

theorem cell_block {w : World} {b : Nat} {cs : List Value} {T : TypeId} {fr : Nat × Nat} (h : w.heap[b]? = some (.cells ⟨cs⟩ T fr)) (o : Nat) : w.cell? ⟨b, o, none⟩ = cs[o]? := by
  simp [World.cell?, h]

theorem frozen_block {w : World} {b : Nat} {cs : List Value} {T : TypeId} {fr : Nat × Nat} (h : w.heap[b]? = some (.cells ⟨cs⟩ T fr)) {o n : Nat} (hf : free fr n) (ho : o < n) : w.frozen? ⟨b, o, none⟩ = false := by
  have := hf o ho
  simp only [World.frozen?, h]
  simp only [Bool.and_eq_false_iff, decide_eq_false_iff_not]
  omega

/-! ### reading -/
theorem run_loadCellsFrom (w : World) (b o : Nat) : ∀ (vs : List Value) (i : Nat) (acc : Array Value), (∀ j u, vs[j]? = some u → w.cell? ⟨b, o + (i + j), none⟩ = some u) →
    (loadCellsFrom ⟨b, o, none⟩ i vs.length acc).run P w = .ok (acc ++ ⟨vs⟩) w
  | [], i, acc, _ => by simp [loadCellsFrom]
  | v :: vs, i, acc, h => by
    have h0 := h 0 v rfl
    have ih := run_loadCellsFrom w b o vs (i + 1) (acc.push v) (fun j u hu => by
      have := h (j + 1) u (by simpa using hu)
      rw [show i + 1 + j = i + (j + 1) from by omega]; exact this)
    simp only [Nat.add_zero] at h0
    simp only [List.length_cons, loadCellsFrom, Sem.run_bind, add_at, run_load, h0, Result.andThen_ok, ih]
    congr 1
    apply Array.ext'
    simp

theorem run_loadCells (w : World) (b o : Nat) (vs : List Value) (h : ∀ j u, vs[j]? = some u → w.cell? ⟨b, o + j, none⟩ = some u) :
    (loadCells ⟨b, o, none⟩ vs.length).run P w = .ok ⟨vs⟩ w := by
  have := run_loadCellsFrom (P := P) w b o vs 0 #[] (fun j u hu => by rw [Nat.zero_add]; exact h j u hu)
  simpa [loadCells] using this

def isAggD : TypeDesc → Bool
  | .struct _ | .array _ _ => true
  | _ => false

theorem run_isAgg (w : World) {t : TypeId} {d : TypeDesc} (h : P.underlying t = some d) : (isAgg t).run P w = .ok (isAggD d) w := by
  simp only [isAgg, underlying, Sem.run_bind, run_program, Result.andThen_ok, h]
  cases d <;> rfl

theorem run_underlying (w : World) {t : TypeId} {d : TypeDesc} (h : P.underlying t = some d) : (underlying t).run P w = .ok d w := by
  simp only [underlying, Sem.run_bind, run_program, Result.andThen_ok, h]; rfl
theorem run_typeInfo (w : World) {t : TypeId} {i : TypeInfo} (h : P.info? t = some i) : (typeInfo t).run P w = .ok i w := by
  simp only [typeInfo, Sem.run_bind, run_program, Result.andThen_ok, h]; rfl
theorem run_sizeOf (w : World) {t : TypeId} {i : TypeInfo} (h : P.info? t = some i) : (sizeOf t).run P w = .ok i.size w := by
  simp only [Go.sizeOf, Sem.run_bind, run_typeInfo w h, Result.andThen_ok, Sem.run_pure]
theorem run_zeroValue (w : World) {t : TypeId} {i : TypeInfo} {z : Value} (h : P.info? t = some i) (hz : i.zero = some z) : (zeroValue t).run P w = .ok z w := by
  simp only [zeroValue, Sem.run_bind, run_typeInfo w h, Result.andThen_ok, hz, Sem.run_pure]

/-- what is loaded as a T from a row's cells from a place on -/
def loadA (P : Program) (T : TypeId) (cells : List Sc) (off : Nat) : Option AVal :=
  match P.underlying T with
  | none => none
  | some d =>
    if isAggD d then
      match P.info? T with
      | none => none
      | some i => if off + i.size ≤ cells.length then some (.agg ((cells.drop off).take i.size)) else none
    else match nth? cells off with
      | some x => some (.sc x)
      | none => none

theorem loadA_run {T : TypeId} {cells : List Sc} {off : Nat} {r : AVal} (h : loadA P T cells off = some r) {env : List Value} {cs : List Value} (hr : SRepL env cells cs)
    (w : World) (b o : Nat) (hc : ∀ j u, cs[j]? = some u → w.cell? ⟨b, o + j, none⟩ = some u) :
    ∃ v, (loadVar T ⟨b, o + off, none⟩).run P w = .ok v w ∧ Rep env r v := by
  unfold loadA at h
  split at h
  · cases h
  · rename_i d hd
    split at h
    · rename_i ha
      split at h
      · cases h
      · rename_i i hi
        split at h
        · rename_i hle
          cases h
          have hl := hr.length
          have hlen : ((cs.drop off).take i.size).length = i.size := by simp; omega
          refine ⟨.agg ⟨(cs.drop off).take i.size⟩, ?_, _, rfl, (hr.drop off).take i.size⟩
          have hrun := run_loadCells (P := P) w b (o + off) ((cs.drop off).take i.size) (fun j u hu => by
            rw [List.getElem?_take] at hu
            split at hu
            · rw [List.getElem?_drop] at hu
              have := hc _ _ hu
              rw [Nat.add_assoc]; exact this
            · cases hu)
          rw [hlen] at hrun
          simp only [loadVar, Sem.run_bind, run_isAgg w hd, Result.andThen_ok, ha, if_true, run_sizeOf w hi, hrun, Sem.run_pure]
        · cases h
    · rename_i ha
      split at h
      · rename_i x hx
        cases h
        rw [nth?_eq] at hx
        obtain ⟨v, hv, hrep⟩ := hr.get off hx
        refine ⟨v, ?_, hrep⟩
        have hc' := hc _ _ hv
        simp only [loadVar, Sem.run_bind, run_isAgg w hd, Result.andThen_ok, run_load]
        rw [if_neg ha]
        simp [hc']
      · cases h

/-! ### writing -/
theorem setCell_heap_ne {w : World} {a : Addr} {v : Value} {k : Nat} (h : k ≠ a.block) : (w.setCell a v).heap[k]? = w.heap[k]? := by
  simp only [World.setCell, Array.getElem?_modify]
  rw [if_neg (by omega)]
theorem setCell_heap_eq {w : World} {b o : Nat} {v : Value} {cs : List Value} {T : TypeId} {fr : Nat × Nat} (h : w.heap[b]? = some (.cells ⟨cs⟩ T fr)) :
    (w.setCell ⟨b, o, none⟩ v).heap[b]? = some (.cells ⟨cs.set o v⟩ T fr) := by
  simp only [World.setCell, Array.getElem?_modify, if_true, h, Option.map_some]
  simp

def setAll : List Value → Nat → List Value → List Value
  | cs, _, [] => cs
  | cs, o, v :: vs => setAll (cs.set o v) (o + 1) vs
def setAllS : List Sc → Nat → List Sc → List Sc
  | cs, _, [] => cs
  | cs, o, v :: vs => setAllS (cs.set o v) (o + 1) vs
theorem setAll_length : ∀ (vs : List Value) (cs : List Value) (o : Nat), (setAll cs o vs).length = cs.length
  | [], _, _ => rfl
  | v :: vs, cs, o => by simp [setAll, setAll_length vs]
theorem SRepL.setAll {env : List Value} : ∀ {xs vs : List _} {cells cs} (o : Nat), SRepL env cells cs → SRepL env xs vs → SRepL env (setAllS cells o xs) (setAll cs o vs)
  | [], _, _, _, o, h, k => by cases k; exact h
  | _ :: _, _, _, _, o, h, k => by
    obtain ⟨v, vs', rfl, h1, h2⟩ := k
    exact SRepL.setAll (o + 1) (h.set o h1) h2
theorem setAll_mem : ∀ (vs : List Value) (cs : List Value) (o : Nat) (Q : Value → Prop), (∀ u ∈ cs, Q u) → (∀ u ∈ vs, Q u) → ∀ u ∈ setAll cs o vs, Q u
  | [], cs, o, Q, h, _ => h
  | v :: vs, cs, o, Q, h, k => setAll_mem vs _ _ Q (fun u hu => by
      rcases List.mem_or_eq_of_mem_set hu with h' | h'
      · exact h u h'
      · subst h'; exact k _ (List.mem_cons_self ..)) (fun u hu => k u (List.mem_cons_of_mem _ hu))

theorem run_storeCells (b : Nat) (T : TypeId) (fr : Nat × Nat) (o : Nat) : ∀ (vs : List Value) (i : Nat) (cs : List Value) (w : World), w.heap[b]? = some (.cells ⟨cs⟩ T fr) → free fr cs.length →
    o + i + vs.length ≤ cs.length → (∀ v ∈ vs, v.oneCell' = true) →
    ∃ w', (storeCells ⟨b, o, none⟩ vs i).run P w = .ok () w' ∧ w'.heap[b]? = some (.cells ⟨setAll cs (o + i) vs⟩ T fr) ∧ (∀ k, k ≠ b → w'.heap[k]? = w.heap[k]?) ∧ w'.heap.size = w.heap.size ∧ w'.os = w.os ∧ w'.tape = w.tape ∧ w'.output = w.output
  | [], i, cs, w, h, hf, hl, h1 => ⟨w, by simp [storeCells], by simpa [setAll] using h, fun _ _ => rfl, rfl, rfl, rfl, rfl⟩
  | v :: vs, i, cs, w, h, hf, hl, h1 => by
    simp only [List.length_cons] at hl
    have hc : w.cell? ⟨b, o + i, none⟩ = some (cs[o + i]'(by omega)) := by rw [cell_block h]; exact List.getElem?_eq_getElem _
    have hz := frozen_block h (o := o + i) hf (by omega)
    have hst : (store ⟨b, o + i, none⟩ v).run P w = .ok () (w.setCell ⟨b, o + i, none⟩ v) := by
      rw [run_store P w _ v _ (h1 v (List.mem_cons_self ..)), hc]
      simp [hz]
    obtain ⟨w', hr, hb, hk, hs, h5, h6, h7⟩ := run_storeCells b T fr o vs (i + 1) (cs.set (o + i) v) (w.setCell ⟨b, o + i, none⟩ v) (setCell_heap_eq h) (by simpa using hf) (by simp; omega) (fun u hu => h1 u (List.mem_cons_of_mem _ hu))
    refine ⟨w', ?_, ?_, ?_, ?_, h5, h6, h7⟩
    · simp only [storeCells, Sem.run_bind, add_at, hst, Result.andThen_ok, hr]
    · simpa [setAll, Nat.add_assoc] using hb
    · intro k hkb
      rw [hk k hkb, setCell_heap_ne hkb]
    · rw [hs]; simp [World.setCell]

theorem run_storeVar {b : Nat} {E T : TypeId} {fr : Nat × Nat} {o : Nat} {cs : List Value} {v : Value} {i : TypeInfo} (w : World) (h : w.heap[b]? = some (.cells ⟨cs⟩ E fr)) (hf : free fr cs.length)
    (hi : P.info? T = some i) (hs : v.cells.size = i.size) (hl : o + v.cells.size ≤ cs.length) (h1 : ∀ u ∈ v.cells.toList, u.oneCell' = true) :
    ∃ w', (storeVar T ⟨b, o, none⟩ v).run P w = .ok () w' ∧ w'.heap[b]? = some (.cells ⟨setAll cs o v.cells.toList⟩ E fr) ∧ (∀ k, k ≠ b → w'.heap[k]? = w.heap[k]?) ∧ w'.heap.size = w.heap.size ∧ w'.os = w.os ∧ w'.tape = w.tape ∧ w'.output = w.output := by
  obtain ⟨w', hr, hb, r⟩ := run_storeCells (P := P) b E fr o v.cells.toList 0 cs w h hf (by simpa using hl) h1
  refine ⟨w', ?_, by simpa using hb, r⟩
  simp only [storeVar, Sem.run_bind, run_sizeOf w hi, Result.andThen_ok, hs, ne_eq, not_true_eq_false, if_false, hr]

/-- the cells of a value that is put into a variable -/
def AVal.cells : AVal → Option (List Sc)
  | .sc x => if x.one then some [x] else none
  | .agg cs => if cs.all Sc.one then some cs else none
  | .tup _ => none
  | .any => none

theorem AVal.cells_rep {env : List Value} {x : AVal} {v : Value} {cs : List Sc} (h : Rep env x v) (hc : x.cells = some cs) :
    SRepL env cs v.cells.toList ∧ ∀ u ∈ v.cells.toList, u.oneCell' = true := by
  cases x with
  | sc x =>
    simp only [AVal.cells] at hc
    split at hc
    · rename_i h1
      cases hc
      have ho := SRep.one h h1
      have hv : v.cells = #[v] := by cases v <;> first | rfl | cases ho
      rw [hv]
      exact ⟨⟨v, [], rfl, h, rfl⟩, fun u hu => by simp at hu; subst hu; exact ho⟩
    · cases hc
  | agg cs' =>
    simp only [AVal.cells] at hc
    split at hc
    · rename_i h1
      cases hc
      obtain ⟨vs, rfl, hr⟩ := h
      exact ⟨hr, hr.one h1⟩
    · cases hc
  | tup _ => cases hc
  | any => cases hc

end Go.AM

namespace Go.AM
open Go

/-! ### operands -/
def cvS : Value → Sc
  | .int k n => .int true k n
  | .bool b => .lb b
  | .string s => .str s
  | v => .val v
def cv : Value → AVal
  | .agg ⟨cs⟩ => .agg (cs.map cvS)
  | v => .sc (cvS v)
theorem cvS_rep (env : List Value) (v : Value) : SRep env (cvS v) v := by
  cases v <;> simp [cvS, SRep]
theorem cvSL_rep (env : List Value) : ∀ vs : List Value, SRepL env (vs.map cvS) vs
  | [] => rfl
  | v :: vs => ⟨v, vs, rfl, cvS_rep env v, cvSL_rep env vs⟩
theorem cv_rep (env : List Value) (v : Value) : Rep env (cv v) v := by
  cases v with
  | agg cs => exact ⟨cs.toList, rfl, cvSL_rep env _⟩
  | _ => simp only [cv, Rep]; exact cvS_rep env _

def ev (ts : List AVal) : Operand → AVal
  | .tmp t => nth ts t (.sc .undef)
  | .const v => cv v
  | .global g => .sc (.val (.pointer (some ⟨g, 0, none⟩)))
  | .func f => .sc (.fn f [])

theorem ev_rep {env : List Value} {ts : List AVal} {a : Act} (h : RepL env ts a.tmps.toList) (o : Operand) : Rep env (ev ts o) (a.eval o) := by
  cases o with
  | tmp t =>
    simp only [ev, nth_eq, Act.eval]
    rw [List.getD_eq_getElem?_getD]
    cases hx : ts[t]? with
    | some x =>
      obtain ⟨v, hv, hr⟩ := h.get t hx
      simp only [Option.getD_some]
      have : a.tmps.getD t undef = v := by
        simp only [Array.getD_eq_getD_getElem?]
        rw [← Array.getElem?_toList, hv]; rfl
      rw [this]; exact hr
    | none =>
      have hl := h.length
      have : a.tmps.getD t undef = undef := by
        rw [List.getElem?_eq_none_iff] at hx
        simp only [Array.getD_eq_getD_getElem?]
        rw [← Array.getElem?_toList, List.getElem?_eq_none (by omega)]; rfl
      rw [this]; rfl
  | const v => exact cv_rep env v
  | global g => exact rfl
  | func f => exact ⟨[], rfl, rfl⟩

def evs (ts : List AVal) : List Operand → List AVal
  | [] => []
  | o :: os => ev ts o :: evs ts os
theorem evs_rep {env : List Value} {ts : List AVal} {a : Act} (h : RepL env ts a.tmps.toList) : ∀ os : List Operand, RepL env (evs ts os) (os.map a.eval)
  | [] => rfl
  | o :: os => ⟨_, _, rfl, ev_rep h o, evs_rep h os⟩
theorem RepL.append {env : List Value} : ∀ {xs vs ys us}, RepL env xs vs → RepL env ys us → RepL env (xs ++ ys) (vs ++ us)
  | [], _, _, _, h, k => by cases h; exact k
  | _ :: _, _, _, _, h, k => by
    obtain ⟨u, vs', rfl, h1, h2⟩ := h
    exact ⟨u, _, rfl, h1, h2.append k⟩

/-! ### forms of the formula -/
inductive Br (b : Bool) (A B : Prop) : Prop where
  | mk (t : b = true → A) (f : b = false → B)
theorem Br.elim {b : Bool} {A B : Prop} (h : Br b A B) : (b = true ∧ A) ∨ (b = false ∧ B) := by
  cases h with
  | mk t f => cases b with
    | true => exact .inl ⟨rfl, t rfl⟩
    | false => exact .inr ⟨rfl, f rfl⟩
/-- a condition that is known, though not by reckoning: one way is shown, with the reason -/
inductive GuardC (b want : Bool) (k : Bool → Prop) : Prop where
  | mk (act : Bool) (h : (b == want) = act) (a : k act)
theorem GuardC.run {b want : Bool} {k : Bool → Prop} (h : b = want) (a : k true) : GuardC b want k := .mk true (by rw [h]; simp) a
theorem GuardC.skip {b want : Bool} {k : Bool → Prop} (h : b ≠ want) (a : k false) : GuardC b want k := .mk false (by simpa using h) a
theorem GuardC.elim {b want : Bool} {k : Bool → Prop} (h : GuardC b want k) : (b = want ∧ k true) ∨ (b ≠ want ∧ k false) := by
  cases h with
  | mk act h a => cases act with
    | true => exact .inl ⟨by simpa using h, a⟩
    | false => exact .inr ⟨by simpa using h, a⟩
inductive Need (p : Prop) (A : Prop) : Prop where
  | mk (need : p) (then_ : A)
inductive Know (p : Prop) (A : Prop) : Prop where
  | mk (h : p → A)
inductive Cast {K1 : Kind} : (K2 : Kind) → List K2.T → (List K1.T → Prop) → Prop where
  | mk (ys : List K1.T) (k : List K1.T → Prop) (h : k ys) : Cast K1 ys k

section patches
variable {X : Type _}
def patch : List X → List (Nat × X) → List X
  | l, [] => l
  | l, (i, x) :: ps => patch (l.set i x) ps
def has (n : Nat) : List (Nat × X) → Bool
  | [] => false
  | (i, _) :: ps => Nat.beq n i || has n ps
end patches
def memb : Nat → List Nat → Bool
  | _, [] => false
  | n, m :: l => match Nat.beq n m with
    | true => true
    | false => memb n l

/-- A call that turns things: what it asks, which of its caller's things it reads, which it sets, what it brings (the token 0 in its result stands for the new thing). -/
structure Eff : Type 1 where
  need : Prop
  rd : List Nat
  sets : List (Nat × Item)
  new : Option Item
  res : AVal

/-- what an operation comes to -/
def Out (P : Program) (o : Oper) (a : Act) (w w0 : World) (F : Nat → Prop) (env : List Value) (K : AVal → List Item → Prop) : Prop :=
  (∃ v w' r m' env', ((execOp a.eval o).run P w = .ok (.value v) w' ∨ ((execOp a.eval o).run P w = .ok .skip w' ∧ v = undef)) ∧ K r m' ∧ Ext env env' ∧ Rep env' r v ∧ MemH w0 F env' m' w') ∨
  (∃ f args w', (execOp a.eval o).run P w = .ok (.enter f args) w' ∧ Calls P f args w' fun e w'' => ∃ r m' env' v, e = .returned v ∧ K r m' ∧ Ext env env' ∧ Rep env' r v ∧ MemH w0 F env' m' w'')

/-- what the machine is told of the program -/
structure Eng : Type 1 where
  P : Program
  kinds : TypeId → Option Kind
  spec : FuncId → List AVal → List Item → (AVal → List Item → Prop) → Prop
  eqs : TypeId → List Sc → List Sc → Option Bool
  qspec : FuncId → List AVal → List Item → Option (Prop × AVal)
  maps : TypeId → Option MKind := fun _ => none
  espec : FuncId → List AVal → List Item → Option Eff := fun _ _ _ => none
  effs : FuncId → Bool := fun _ => false
  hk : List AVal → Op → Bool := fun _ _ => false
  hook : List AVal → List Item → Op → (AVal → List Item → Prop) → Prop := fun _ _ _ _ => False

/-- A call: whatever memory the caller's tokens tell of. -/
def TripleF (P : Program) (f : FuncId) (args : List AVal) (m : List Item) (k : AVal → List Item → Prop) : Prop :=
  ∀ w0 F env vs w, MemH w0 F env m w → RepL env args vs →
    (∀ w, (callFunc f ⟨vs⟩).run P w = .ok (.enter f ⟨vs⟩) w) ∧
    Calls P f ⟨vs⟩ w fun e w' => ∃ r m' env' v, e = .returned v ∧ k r m' ∧ Ext env env' ∧ Rep env' r v ∧ MemH w0 F env' m' w'

def EffOk (P : Program) (f : FuncId) (args : List AVal) (m : List Item) (e : Eff) : Prop := ∀ m2 : List Item, m2.length = m.length → (∀ t, memb t e.rd = true ∨ has t e.sets = true → m2[t]? = m[t]?) →
  TripleF P f args m2 fun r m' => r = e.res.ren (fun _ => m2.length) ∧ m' = patch m2 e.sets ++ e.new.toList
structure MapFacts (P : Program) (T : TypeId) (M : MKind) : Prop where
  under : P.underlying T = some (.map M.kt M.vt)
  key : P.underlying M.kt = some M.desc
  zero : ∃ i, P.info? M.vt = some i ∧ i.zero = some (M.ev M.zero)
structure Eng.Ok (E : Eng) : Prop where
  mixed : E.P.follows .mixedOrders = true
  quiet : ∀ f args m p r, E.qspec f args m = some (p, r) → p → ∀ m2, LeM m m2 → TripleF E.P f args m2 fun r' m' => r' = r ∧ m' = m2
  spec : ∀ f args m k, E.spec f args m k → TripleF E.P f args m k
  maps : ∀ T M, E.maps T = some M → MapFacts E.P T M
  eff : ∀ f args m e, E.espec f args m = some e → e.need → EffOk E.P f args m e
  hook : ∀ ts m op K, E.hook ts m op K → ∀ (w0 : World) (F : Nat → Prop) (env : List Value) (a : Act) (w : World) (o : Oper), o.op = op → RepL env ts a.tmps.toList → MemH w0 F env m w → Out E.P o a w w0 F env K
  eqs : ∀ T xs ys b, E.eqs T xs ys = some b → ∀ env vs us w x y, SRepL env xs vs → SRepL env ys us →
    (do eqGuard .eql T x y (.agg ⟨vs⟩) (.agg ⟨us⟩); binOp .eql T (.agg ⟨vs⟩) (.agg ⟨us⟩) : Sem Value).run E.P w = .ok (.bool b) w ∧
    (do eqGuard .neq T x y (.agg ⟨vs⟩) (.agg ⟨us⟩); binOp .neq T (.agg ⟨vs⟩) (.agg ⟨us⟩) : Sem Value).run E.P w = .ok (.bool (!b)) w

/-! ### the operations that only compute -/
def cmpS : Bool → Bool → Sc
  | true, b => .lb b
  | false, b => .bool b
theorem cmpS_rep (env : List Value) (l b : Bool) : SRep env (cmpS l b) (.bool b) := by cases l <;> rfl

/-- a condition of literals: reckoned; else asked -/
def needLit (l b : Bool) (p : Prop) (A : Prop) : Prop :=
  match l, b with
  | true, true => A
  | true, false => False
  | false, _ => Need p A
theorem needLit_elim {l b : Bool} {p A : Prop} (hb : b = true → p) (h : needLit l b p A) : p ∧ A := by
  cases l with
  | false => exact ⟨h.1, h.2⟩
  | true => cases b with
    | true => exact ⟨hb rfl, h⟩
    | false => exact h.elim
theorem needLit_intro {l b : Bool} {p A B : Prop} (h : needLit l b p A) (k : B) : needLit l b p B := by
  cases l with
  | false => exact ⟨h.1, k⟩
  | true => cases b with
    | true => exact k
    | false => exact h.elim

def intBin (op : BinOp) (l : Bool) (k : IntKind) (x y : Int) (K : Sc → Prop) : Prop :=
  match op with
  | .add => K (.int l k (k.wrap (x + y)))
  | .sub => K (.int l k (k.wrap (x - y)))
  | .mul => K (.int l k (k.wrap (x * y)))
  | .quo => Need (y ≠ 0) (K (.int l k (k.wrap (x.tdiv y))))
  | .rem => Need (y ≠ 0) (K (.int l k (x.tmod y)))
  | .eql => K (cmpS l (x == y))
  | .neq => K (cmpS l (x != y))
  | .lss => K (cmpS l (decide (x < y)))
  | .leq => K (cmpS l (decide (x ≤ y)))
  | .gtr => K (cmpS l (decide (x > y)))
  | .geq => K (cmpS l (decide (x ≥ y)))
  | .and => K (.int l k (k.wrap ((BitVec.ofInt k.bits x &&& BitVec.ofInt k.bits y).toNat : Nat)))
  | .or => K (.int l k (k.wrap ((BitVec.ofInt k.bits x ||| BitVec.ofInt k.bits y).toNat : Nat)))
  | .xor => K (.int l k (k.wrap ((BitVec.ofInt k.bits x ^^^ BitVec.ofInt k.bits y).toNat : Nat)))
  | _ => False

def strBin (op : BinOp) (x y : ByteArray) (K : Sc → Prop) : Prop :=
  match op with
  | .add => Need (x.size + y.size ≤ 9223372036854775807) (K (.str (x ++ y)))
  | .eql => K (.bool (x.toList == y.toList))
  | .neq => K (.bool (!(x.toList == y.toList)))
  | .lss => K (.bool (Op.bytesLess x.toList y.toList))
  | .leq => K (.bool (Op.bytesLess x.toList y.toList || x.toList == y.toList))
  | .gtr => K (.bool (!(Op.bytesLess x.toList y.toList || x.toList == y.toList)))
  | .geq => K (.bool (!Op.bytesLess x.toList y.toList))
  | _ => False

def boolOf : Sc → Option Bool
  | .bool b => some b
  | .lb b => some b
  | _ => none

def isBoolT (P : Program) (T : TypeId) : Bool := match P.underlying T with | some .bool => true | _ => false

def intBin2 (op : BinOp) (l : Bool) (k : IntKind) (a : Int) (l' : Bool) (k' : IntKind) (b : Int) (K : Sc → Prop) : Prop :=
  match op with
  | .shl => needLit l' (decide (0 ≤ b)) (0 ≤ b) (K (.int (l && l') k (k.wrap (a * 2 ^ (min b.toNat k.bits)))))
  | .shr => needLit l' (decide (0 ≤ b)) (0 ≤ b) (K (.int (l && l') k (a.fdiv (2 ^ (min b.toNat k.bits)))))
  | .quo => if k = k' then needLit l' (decide (b ≠ 0)) (b ≠ 0) (K (.int (l && l') k (k.wrap (a.tdiv b)))) else False
  | .rem => if k = k' then needLit l' (decide (b ≠ 0)) (b ≠ 0) (K (.int (l && l') k (a.tmod b))) else False
  | op => if k = k' then intBin op (l && l') k a b K else False

def aggBin (E : Eng) (op : BinOp) (T : TypeId) (xs ys : List Sc) (K : Sc → Prop) : Prop :=
  match op, E.eqs T xs ys with
  | .eql, some b => K (.bool b)
  | .neq, some b => K (.bool (!b))
  | _, _ => False

def boolBin (P : Program) (op : BinOp) (T : TypeId) (x y : Sc) (K : Sc → Prop) : Prop :=
  match op, boolOf x, boolOf y, isBoolT P T with
  | .eql, some a, some b, true => K (.bool (a == b))
  | .neq, some a, some b, true => K (.bool (!(a == b)))
  | _, _, _, _ => False

def binA (E : Eng) (op : BinOp) (T : TypeId) (x y : AVal) (K : Sc → Prop) : Prop :=
  match x, y with
  | .sc (.int l k a), .sc (.int l' k' b) => intBin2 op l k a l' k' b K
  | .sc (.str a), .sc (.str b) => strBin op a b K
  | .agg xs, .agg ys => aggBin E op T xs ys K
  | .sc a, .sc b => boolBin E.P op T a b K
  | _, _ => False

def unA (op : UnOp) (x : AVal) (K : AVal → Prop) : Prop :=
  match op, x with
  | .not, .sc (.bool b) => K (.sc (.bool (!b)))
  | .not, .sc (.lb b) => K (.sc (.lb (!b)))
  | .neg, .sc (.int l k n) => K (.sc (.int l k (k.wrap (0 - n))))
  | _, _ => False

theorem eqGuard_plain {P : Program} (w : World) (op : BinOp) (T : TypeId) (x y : Operand) (a b : Value) (h1 : a ≠ .nilIface) (h2 : ∀ c, a ≠ .agg c) : (eqGuard op T x y a b).run P w = .ok () w := by
  unfold eqGuard
  cases op <;> simp <;> (cases a <;> simp_all)

theorem run_intBin {P : Program} (w : World) {op : BinOp} {l : Bool} {k : IntKind} {x y : Int} {K : Sc → Prop} (h : intBin op l k x y K) (T : TypeId) (env : List Value) :
    ∃ v r, (binOp op T (.int k x) (.int k y)).run P w = .ok v w ∧ K r ∧ SRep env r v := by
  cases op <;> simp only [intBin] at h <;> first
    | exact h.elim
    | exact ⟨_, _, rfl, h, rfl⟩
    | (refine ⟨_, _, ?_, h, cmpS_rep env _ _⟩; simp [binOp, Op.intCmp]; done)
    | (refine ⟨_, _, ?_, h, rfl⟩; simp [binOp, Op.intArith, Op.intBits, IntKind.bits]; done)
    | (obtain ⟨hy, h⟩ := h; refine ⟨_, _, ?_, h, rfl⟩; simp [binOp, Op.intDiv, hy]; done)

theorem run_intBin2 {P : Program} (w : World) {op : BinOp} {l l' : Bool} {k k' : IntKind} {a b : Int} {K : Sc → Prop} (h : intBin2 op l k a l' k' b K) (T : TypeId) (x y : Operand) (env : List Value) :
    ∃ v r, (do eqGuard op T x y (.int k a) (.int k' b); binOp op T (.int k a) (.int k' b) : Sem Value).run P w = .ok v w ∧ K r ∧ SRep env r v := by
  unfold intBin2 at h
  split at h
  · obtain ⟨hb, h⟩ := needLit_elim of_decide_eq_true h
    refine ⟨_, _, ?_, h, rfl⟩
    simp [eqGuard, binOp, Op.shift, show ¬ b < 0 from by omega]
  · obtain ⟨hb, h⟩ := needLit_elim of_decide_eq_true h
    refine ⟨_, _, ?_, h, rfl⟩
    simp [eqGuard, binOp, Op.shift, show ¬ b < 0 from by omega]
  · split at h
    · rename_i hk
      subst hk
      obtain ⟨hb, h⟩ := needLit_elim of_decide_eq_true h
      refine ⟨_, _, ?_, h, rfl⟩
      simp [eqGuard, binOp, Op.intDiv, hb]
    · exact h.elim
  · split at h
    · rename_i hk
      subst hk
      obtain ⟨hb, h⟩ := needLit_elim of_decide_eq_true h
      refine ⟨_, _, ?_, h, rfl⟩
      simp [eqGuard, binOp, Op.intDiv, hb]
    · exact h.elim
  · split at h
    · rename_i hk
      subst hk
      obtain ⟨v, r, hrun, hK, hr⟩ := run_intBin (P := P) w h T env
      exact ⟨v, r, by simp only [Sem.run_bind, eqGuard_plain w op T x y _ _ (show Value.int k a ≠ .nilIface by simp) (by simp), Result.andThen_ok, hrun], hK, hr⟩
    · exact h.elim

theorem run_strBin {P : Program} (w : World) {op : BinOp} {a b : ByteArray} {K : Sc → Prop} (h : strBin op a b K) (T : TypeId) (x y : Operand) (env : List Value) :
    ∃ v r, (do eqGuard op T x y (.string a) (.string b); binOp op T (.string a) (.string b) : Sem Value).run P w = .ok v w ∧ K r ∧ SRep env r v := by
  have hg := eqGuard_plain (P := P) w op T x y (.string a) (.string b) (by simp) (by simp)
  simp only [Sem.run_bind, hg, Result.andThen_ok]
  cases op <;> simp only [strBin] at h <;> first
    | exact h.elim
    | exact ⟨_, _, rfl, h, rfl⟩
    | (obtain ⟨hb, h⟩ := h
       refine ⟨.string (a ++ b), _, ?_, h, rfl⟩
       have hb' : ¬ (((a.size + b.size : Nat) : Int) > IntKind.i64.max) := by
         have : IntKind.i64.max = 9223372036854775807 := by decide
         omega
       simp only [binOp, Op.stringOp]
       rw [if_neg hb']
       rfl)

theorem boolOf_rep {env : List Value} {x : Sc} {b : Bool} {v : Value} (h : boolOf x = some b) (hr : SRep env x v) : v = .bool b := by
  unfold boolOf at h
  split at h
  · cases h; exact hr
  · cases h; exact hr
  · cases h

theorem run_boolBin {P : Program} (w : World) {op : BinOp} {T : TypeId} {X Y : Sc} {K : Sc → Prop} (h : boolBin P op T X Y K) (x y : Operand) {env : List Value} {a b : Value} (ha : SRep env X a) (hb : SRep env Y b) :
    ∃ v r, (do eqGuard op T x y a b; binOp op T a b : Sem Value).run P w = .ok v w ∧ K r ∧ SRep env r v := by
  unfold boolBin at h
  split at h
  · rename_i a' b' h1 h2 hTb
    rw [boolOf_rep h1 ha, boolOf_rep h2 hb]
    have hT : P.underlying T = some .bool := by
      unfold isBoolT at hTb; split at hTb
      · assumption
      · cases hTb
    refine ⟨.bool (a' == b'), _, ?_, h, rfl⟩
    simp only [Sem.run_bind, eqGuard_plain w .eql T x y _ _ (show Value.bool a' ≠ .nilIface by simp) (by simp), Result.andThen_ok, binOp, Op.equal, Op.maxDepth]
    rw [Op.equalIn]
    simp [underlying, hT]
  · rename_i a' b' h1 h2 hTb
    rw [boolOf_rep h1 ha, boolOf_rep h2 hb]
    have hT : P.underlying T = some .bool := by
      unfold isBoolT at hTb; split at hTb
      · assumption
      · cases hTb
    refine ⟨.bool (!(a' == b')), _, ?_, h, rfl⟩
    simp only [Sem.run_bind, eqGuard_plain w .neq T x y _ _ (show Value.bool a' ≠ .nilIface by simp) (by simp), Result.andThen_ok, binOp, Op.equal, Op.maxDepth]
    rw [Op.equalIn]
    simp [underlying, hT]
  · exact h.elim

theorem run_binA {E : Eng} (hE : E.Ok) (w : World) {op : BinOp} {T : TypeId} {X Y : AVal} {K : Sc → Prop} (h : binA E op T X Y K) (x y : Operand) {env : List Value} {a b : Value} (ha : Rep env X a) (hb : Rep env Y b) :
    ∃ v r, (do eqGuard op T x y a b; binOp op T a b : Sem Value).run E.P w = .ok v w ∧ K r ∧ SRep env r v := by
  unfold binA at h
  split at h
  · cases (show a = _ from ha); cases (show b = _ from hb)
    exact run_intBin2 w h T x y env
  · cases (show a = _ from ha); cases (show b = _ from hb)
    exact run_strBin w h T x y env
  · rename_i xs ys
    obtain ⟨vs, rfl, hrx⟩ := ha
    obtain ⟨us, rfl, hry⟩ := hb
    unfold aggBin at h
    split at h
    · rename_i c hc
      exact ⟨_, _, (hE.eqs T xs ys c hc env vs us w x y hrx hry).1, h, rfl⟩
    · rename_i c hc
      exact ⟨_, _, (hE.eqs T xs ys c hc env vs us w x y hrx hry).2, h, rfl⟩
    · exact h.elim
  · exact run_boolBin w h x y ha hb
  · exact h.elim

end Go.AM

namespace Go.AM
open Go
variable {P : Program} {w0 : World} {F : Nat → Prop}

def Item.row : Item → Option (Sigma fun K : Kind => List K.T)
  | .slc K xs => some ⟨K, xs⟩
  | .slx K xs _ => some ⟨K, xs⟩
  | .ro K xs => some ⟨K, xs⟩
  | .rob K xs => some ⟨K, xs⟩
  | _ => none

theorem row_cells' {env m w fp} (h : MemF w0 F env m w fp) {t : Nat} {it : Item} {v : Value} (hm : m[t]? = some it) {K : Kind} {xs : List K.T} (hr : it.row = some ⟨K, xs⟩) (hv : env[t]? = some v) :
    ∃ A c, v = .slice A xs.length c ∧ (xs.length ≤ maxLen ∧ xs.length ≤ c) ∧ (A = none → xs = [] ∧ c = 0) ∧ (xs ≠ [] → ∃ b o, A = some ⟨b, o, none⟩ ∧ ∀ j u, (K.cells xs)[j]? = some u → w.cell? ⟨b, o + j, none⟩ = some u) := by
  have hi := h.item t it v hm hv
  cases it with
  | slc K' xs' =>
    simp only [Item.row, Option.some.injEq, Sigma.mk.injEq] at hr
    obtain ⟨rfl, hr⟩ := hr
    cases hr
    obtain ⟨ho, _⟩ := hi
    have hcells := fun g (hg : v.ownBlock = some g) => ho.cells hg
    rcases ho.2 with ⟨rfl, hn⟩ | ⟨g, cap, cur, rfl, _, hb, hnc, hcm, hcs, htk⟩
    · have : xs' = [] := List.eq_nil_of_length_eq_zero hn
      subst this
      exact ⟨none, 0, rfl, ⟨Nat.zero_le _, Nat.zero_le _⟩, fun _ => ⟨rfl, rfl⟩, fun h => absurd rfl h⟩
    · refine ⟨_, cap, rfl, ⟨Nat.le_trans hnc hcm, hnc⟩, (fun h => by cases h), fun _ => ⟨g, 0, rfl, fun j u hu => ?_⟩⟩
      have := hcells g rfl j u hu
      rw [add_at] at this
      exact this
  | slx K' xs' n' =>
    simp only [Item.row, Option.some.injEq, Sigma.mk.injEq] at hr
    obtain ⟨rfl, hr⟩ := hr
    cases hr
    obtain ⟨⟨ho, _⟩, _⟩ := hi
    have hcells := fun g (hg : v.ownBlock = some g) => ho.cells hg
    rcases ho.2 with ⟨rfl, hn⟩ | ⟨g, cap, cur, rfl, _, hb, hnc, hcm, hcs, htk⟩
    · have : xs' = [] := List.eq_nil_of_length_eq_zero hn
      subst this
      exact ⟨none, 0, rfl, ⟨Nat.zero_le _, Nat.zero_le _⟩, fun _ => ⟨rfl, rfl⟩, fun h => absurd rfl h⟩
    · refine ⟨_, cap, rfl, ⟨Nat.le_trans hnc hcm, hnc⟩, (fun h => by cases h), fun _ => ⟨g, 0, rfl, fun j u hu => ?_⟩⟩
      have := hcells g rfl j u hu
      rw [add_at] at this
      exact this
  | ro K' xs' =>
    simp only [Item.row, Option.some.injEq, Sigma.mk.injEq] at hr
    obtain ⟨rfl, hr⟩ := hr
    cases hr
    obtain ⟨_, A, c, rfl, hl, hnil, hcell⟩ := hi
    refine ⟨A, c, rfl, hl, hnil, fun hne => ?_⟩
    obtain ⟨b, o, rfl, hnF, hlt, hc⟩ := hcell hne
    refine ⟨b, o, rfl, fun j u hu => ?_⟩
    rw [World.cell?_of_block (w := w0) (a := ⟨b, o + j, none⟩) (h.keep.block b hlt hnF)]
    exact hc j u hu
  | rob K' xs' =>
    simp only [Item.row, Option.some.injEq, Sigma.mk.injEq] at hr
    obtain ⟨rfl, hr⟩ := hr
    cases hr
    obtain ⟨b, c, cs, fr, rfl, hl, hb, hp, _⟩ := hi
    refine ⟨_, c, rfl, hl, fun h => (by cases h), fun _ => ⟨b, 0, rfl, fun j u hu => ?_⟩⟩
    rw [cell_block hb, Nat.zero_add]
    obtain ⟨r, rfl⟩ := hp
    rw [List.getElem?_append_left (List.getElem?_eq_some_iff.1 hu).1]; exact hu
  | gone => cases hr
  | box _ _ => cases hr
  | obj _ => cases hr
  | mp _ _ _ => cases hr
  | itm _ _ _ => cases hr

theorem row_cells {env m w fp} (h : MemF w0 F env m w fp) {t : Nat} {it : Item} {v : Value} (hm : m[t]? = some it) {K : Kind} {xs : List K.T} (hr : it.row = some ⟨K, xs⟩) (hv : env[t]? = some v) :
    ∃ A c, v = .slice A xs.length c ∧ xs.length ≤ maxLen ∧ (A = none → xs = [] ∧ c = 0) ∧ (xs ≠ [] → ∃ b o, A = some ⟨b, o, none⟩ ∧ ∀ j u, (K.cells xs)[j]? = some u → w.cell? ⟨b, o + j, none⟩ = some u) := by
  obtain ⟨A, c, h1, h2, h3⟩ := row_cells' h hm hr hv
  exact ⟨A, c, h1, h2.1, h3⟩

theorem box_cells {env m w fp} (h : MemF w0 F env m w fp) {t : Nat} {T : TypeId} {cells : List Sc} (hm : m[t]? = some (.box T cells)) {b : Nat} (hv : env[t]? = some (.pointer (some ⟨b, 0, none⟩))) :
    ∃ cs fr, w.heap[b]? = some (.cells ⟨cs⟩ T fr) ∧ SRepL env cells cs ∧ (∀ u ∈ cs, u.oneCell' = true) ∧ free fr cs.length ∧ (∀ k, fp t k ↔ k = b) := by
  obtain ⟨b', cs, fr, hv', hb, r, h1, hf, hfp⟩ := h.item t _ _ hm hv
  cases hv'
  exact ⟨cs, fr, hb, r, h1, hf, hfp⟩

theorem Out.value {o : Oper} {a : Act} {w : World} {env : List Value} {K : AVal → List Item → Prop} {v : Value} {w' : World} {r : AVal} {m' : List Item} {env' : List Value}
    (h : (execOp a.eval o).run P w = .ok (.value v) w') (hK : K r m') (he : Ext env env') (hr : Rep env' r v) (hM : MemH w0 F env' m' w') : Out P o a w w0 F env K :=
  .inl ⟨v, w', r, m', env', .inl h, hK, he, hr, hM⟩

/-- what an operation comes to that leaves the world alone -/
def OutQ (P : Program) (o : Oper) (a : Act) (w : World) (env : List Value) (m : List Item) (K : AVal → List Item → Prop) : Prop :=
  ∃ v r, (execOp a.eval o).run P w = .ok (.value v) w ∧ K r m ∧ Rep env r v
theorem OutQ.mk {o : Oper} {a : Act} {w : World} {env : List Value} {m : List Item} {K : AVal → List Item → Prop} {v : Value} {r : AVal}
    (h : (execOp a.eval o).run P w = .ok (.value v) w) (hK : K r m) (hr : Rep env r v) : OutQ P o a w env m K := ⟨v, r, h, hK, hr⟩
theorem OutQ.out {o : Oper} {a : Act} {w : World} {env : List Value} {m : List Item} {K : AVal → List Item → Prop} (h : OutQ P o a w env m K) (hM : MemH w0 F env m w) : Out P o a w w0 F env K :=
  let ⟨v, r, h1, h2, h3⟩ := h
  Out.value h1 h2 (Ext.refl _) h3 hM

theorem Out.wp {o : Oper} {a : Act} {w : World} {env : List Value} {K : AVal → List Item → Prop} (h : Out P o a w w0 F env K) {next : Act → World → Prop} {Q : Exit → Act → World → Prop}
    (hn : ∀ v w' r m' env', K r m' → Ext env env' → Rep env' r v → MemH w0 F env' m' w' → next (a.put o.dst v) w') : o.wp P a w next Q := by
  unfold Oper.wp
  rcases h with ⟨v, w', r, m', env', hrun, hK, he, hr, hM⟩ | ⟨f, args, w', hrun, hc⟩
  · rcases hrun with hrun | ⟨hrun, rfl⟩
    · rw [hrun]; exact hn _ _ _ _ _ hK he hr hM
    · rw [hrun]; exact hn _ _ _ _ _ hK he hr hM
  · rw [hrun, Oper.upon_enter]
    refine hc.mono ?_
    rintro e w'' ⟨r, m', env', v, rfl, hK, he, hr, hM⟩
    exact hn _ _ _ _ _ hK he hr hM

/-! ### new boxes -/
theorem box_new {env m w fp} (h : MemF w0 F env m w fp) (T : TypeId) {cells : List Sc} {vs : List Value} (hr : SRepL env cells vs) (h1 : ∀ u ∈ vs, u.oneCell' = true) :
    MemH w0 F (env ++ [.pointer (some ⟨w.heap.size, 0, none⟩)]) (m ++ [.box T cells]) { w with heap := w.heap.push (.cells ⟨vs⟩ T) } := by
  refine ⟨_, h.snoc (w' := { w with heap := w.heap.push (.cells ⟨vs⟩ T) }) (fun k hk => ?_) rfl rfl rfl (by show _ ≤ (w.heap.push _).size; simp) _ _ (fun k => k = w.heap.size) (fun k hk => ⟨by omega, by show k < (w.heap.push _).size; simp; omega⟩) ?_⟩
  · show (w.heap.push _)[k]? = _
    rw [Array.getElem?_push, if_neg (by omega)]
  · exact ⟨w.heap.size, vs, (0, 0), rfl, by show (w.heap.push _)[w.heap.size]? = _; simp, hr.ext (Ext.append _ _), h1, fun j _ => by simp, fun k => Iff.rfl⟩

theorem env_last {env : List Value} {m : List Item} (h : env.length = m.length) (v : Value) : (env ++ [v])[m.length]? = some v := by
  rw [← h]; simp

def allocOp (P : Program) (m : List Item) (T : TypeId) (K : AVal → List Item → Prop) : Prop :=
  match P.info? T with
  | none => False
  | some i => match i.zero with
    | none => False
    | some z => match (cv z).cells with
      | none => False
      | some cs => forceL cs fun cs => snocK m (.box T cs) fun m' n => K (.sc (.fld n 0)) m'

theorem allocOp_out {o : Oper} {a : Act} {w : World} {env m} {K} {T : TypeId} (ho : o.op = .alloc T) (h : allocOp P m T K) (hM : MemH w0 F env m w) : Out P o a w w0 F env K := by
  unfold allocOp at h
  split at h
  · exact h.elim
  · rename_i i hi
    split at h
    · exact h.elim
    · rename_i z hz
      split at h
      · exact h.elim
      · rename_i cs hcs
        rw [forceL_eq, snocK_eq] at h
        obtain ⟨fp, hf⟩ := hM
        obtain ⟨hr, h1⟩ := AVal.cells_rep (cv_rep env z) hcs
        refine Out.value (env' := env ++ [.pointer (some ⟨w.heap.size, 0, none⟩)]) (v := .pointer (some ⟨w.heap.size, 0, none⟩)) (w' := { w with heap := w.heap.push (.cells z.cells T) }) ?_ h (Ext.append _ _) ?_ ?_
        · simp only [execOp, ho, Sem.run_bind, Instr.alloc, run_zeroValue w hi hz, Result.andThen_ok, newVar, newRow, run_newObj, Sem.run_pure]
        · exact ⟨w.heap.size, env_last hf.len _, rfl⟩
        · exact box_new hf T hr h1

def boxOp (m : List Item) (T : TypeId) (x : AVal) (K : AVal → List Item → Prop) : Prop :=
  match x.cells with
  | none => False
  | some cs => forceL cs fun cs => snocK m (.box T cs) fun m' n => K (.sc (.fld n 0)) m'

theorem boxOp_out {o : Oper} {a : Act} {w : World} {env m} {K} {T : TypeId} {x : Operand} {X : AVal} (ho : o.op = .box T x) (h : boxOp m T X K) (hx : Rep env X (a.eval x)) (hM : MemH w0 F env m w) : Out P o a w w0 F env K := by
  unfold boxOp at h
  split at h
  · exact h.elim
  · rename_i cs hcs
    rw [forceL_eq, snocK_eq] at h
    obtain ⟨fp, hf⟩ := hM
    obtain ⟨hr, h1⟩ := AVal.cells_rep hx hcs
    refine Out.value (env' := env ++ [.pointer (some ⟨w.heap.size, 0, none⟩)]) (v := .pointer (some ⟨w.heap.size, 0, none⟩)) (w' := { w with heap := w.heap.push (.cells (a.eval x).cells T) }) ?_ h (Ext.append _ _) ?_ ?_
    · simp only [execOp, ho, Sem.run_bind, Instr.box, Result.andThen_ok, newVar, newRow, run_newObj, Sem.run_pure]
    · exact ⟨w.heap.size, env_last hf.len _, rfl⟩
    · exact box_new hf T hr h1

/-! ### loads -/
def loadOp (P : Program) (m : List Item) (T : TypeId) (x : AVal) (K : AVal → List Item → Prop) : Prop :=
  match x with
  | .sc (.fld t off) =>
    match nth? m t with
    | some (.box _ cells) => match loadA P T cells off with
      | some r => K r m
      | none => False
    | _ => False
  | .sc (.elt t sz i off) =>
    match nth? m t with
    | some it => match it.row with
      | some ⟨Kd, xs⟩ => if sz = Kd.sz then (match loadA P T (Kd.encA (nth xs i Kd.d)) off with
        | some r => K r m
        | none => False) else False
      | none => False
    | none => False
  | _ => False

theorem loadOp_out {o : Oper} {a : Act} {w : World} {env m} {K} {T : TypeId} {x : Operand} {X : AVal} (ho : o.op = .load T x) (h : loadOp P m T X K) (hx : Rep env X (a.eval x)) (hM : MemH w0 F env m w) : OutQ P o a w env m K := by
  obtain ⟨fp, hf⟩ := hM
  unfold loadOp at h
  split at h
  · rename_i t off
    split at h
    · rename_i T' cells hm
      rw [nth?_eq] at hm
      split at h
      · rename_i r hr
        obtain ⟨b, hb, hv⟩ := hx
        obtain ⟨cs, fr, hcb, hrep, _⟩ := box_cells hf hm hb
        obtain ⟨v, hrun, hrv⟩ := loadA_run hr hrep w b 0 (fun j u hu => by rw [cell_block hcb, Nat.zero_add]; exact hu)
        rw [Nat.zero_add] at hrun
        refine OutQ.mk (v := v) ?_ h hrv
        simp only [execOp, ho, hv, Sem.run_bind, Instr.loadAt, Instr.sureAddr, Sem.run_pure, Result.andThen_ok, hrun]
      · exact h.elim
    · exact h.elim
  · rename_i t sz i off
    split at h
    · rename_i it hm
      rw [nth?_eq] at hm
      split at h
      · rename_i Kd xs hrow
        split at h
        · rename_i hsz
          subst hsz
          split at h
          · rename_i r hr
            obtain ⟨b, o', n, c, hb, hin, hv⟩ := hx
            obtain ⟨A, c', hvv, _, _, hcell⟩ := row_cells hf hm hrow hb
            cases hvv
            obtain ⟨b2, o2, he, hc⟩ := hcell (by intro e; subst e; simp at hin)
            cases he
            have hrep := (Kd.rep env (nth xs i Kd.d) (Kd.enc (nth xs i Kd.d))).2 rfl
            obtain ⟨v, hrun, hrv⟩ := loadA_run (P := P) hr hrep w b (o' + i * Kd.sz) (fun j u hu => by
              rw [Nat.add_assoc]
              refine hc _ _ ?_
              have hj : j < Kd.sz := by
                have := (List.getElem?_eq_some_iff.1 hu).1
                rwa [Kd.len] at this
              rw [Kd.cells_get xs i j hin hj, ← nth_eq]; exact hu)
            refine OutQ.mk (v := v) ?_ h hrv
            rw [Nat.add_assoc] at hrun
            simp only [execOp, ho, hv, Sem.run_bind, Instr.loadAt, Instr.sureAddr, Sem.run_pure, Result.andThen_ok, hrun]
          · exact h.elim
        · exact h.elim
      · exact h.elim
    · exact h.elim
  · exact h.elim

end Go.AM

namespace Go.AM
open Go
variable {P : Program} {w0 : World} {F : Nat → Prop}

theorem nth_some' {m : List Item} {t : Nat} {K : Kind} {xs : List K.T} (h : nth m t .gone = .slc K xs) : m[t]? = some (.slc K xs) := by
  rw [nth_eq, List.getD_eq_getElem?_getD] at h
  cases hl : m[t]? with
  | none => rw [hl] at h; cases h
  | some y => rw [hl] at h; simp at h; rw [h]

/-! ### stores -/
def storeOp (P : Program) (m : List Item) (T : TypeId) (x v : AVal) (K : AVal → List Item → Prop) : Prop :=
  match x, v.cells, P.info? T with
  | .sc (.fld t off), some new, some i =>
    match nth? m t with
    | some (.box E cells) => if new.length = i.size then (if off + new.length ≤ cells.length then forceL (setAllS cells off new) fun cs => setK m t (.box E cs) fun m' => K (.sc .undef) m' else False) else False
    | _ => False
  | .sc (.elt t sz j off), some new, some i =>
    match nth? m t with
    | some (.slc Kd xs) => if sz = Kd.sz then (if new.length = i.size then (if off + new.length ≤ Kd.sz then
        (match Kd.dec (setAllS (Kd.encA (nth xs j Kd.d)) off new) with
          | some y => setK m t (.slc Kd (xs.set j y)) fun m' => K (.sc .undef) m'
          | none => False) else False) else False) else False
    | _ => False
  | _, _, _ => False

theorem setAll_append_right : ∀ (vs A B : List Value) (o : Nat), setAll (A ++ B) (A.length + o) vs = A ++ setAll B o vs
  | [], A, B, o => rfl
  | v :: vs, A, B, o => by
    simp only [setAll]
    rw [List.set_append_right _ _ (by omega), Nat.add_sub_cancel_left, Nat.add_assoc, setAll_append_right vs A (B.set o v) (o + 1)]
theorem setAll_append_left : ∀ (vs A B : List Value) (o : Nat), o + vs.length ≤ A.length → setAll (A ++ B) o vs = setAll A o vs ++ B
  | [], A, B, o, _ => rfl
  | v :: vs, A, B, o, h => by
    simp only [List.length_cons] at h
    simp only [setAll]
    rw [List.set_append_left _ _ (by omega), setAll_append_left vs (A.set o v) B (o + 1) (by simp; omega)]

theorem Kind.cells_set (K : Kind) : ∀ (xs : List K.T) (i off : Nat) (y : K.T) (new : List Value), i < xs.length → off + new.length ≤ K.sz → setAll (K.enc (xs.getD i K.d)) off new = K.enc y →
    setAll (K.cells xs) (i * K.sz + off) new = K.cells (xs.set i y)
  | [], i, _, _, _, h, _, _ => by simp at h
  | x :: xs, 0, off, y, new, _, ho, he => by
    simp only [Kind.cells, List.flatMap_cons, Nat.zero_mul, Nat.zero_add, List.set_cons_zero]
    rw [setAll_append_left _ _ _ _ (by rw [K.len]; exact ho)]
    simp only [List.getD_cons_zero] at he
    rw [he]
  | x :: xs, i + 1, off, y, new, h, ho, he => by
    have ih := Kind.cells_set K xs i off y new (by simpa using h) ho (by simpa using he)
    simp only [Kind.cells, List.flatMap_cons, List.set_cons_succ] at *
    rw [show (i + 1) * K.sz + off = (K.enc x).length + (i * K.sz + off) from by rw [K.len, Nat.add_mul]; omega, setAll_append_right, ih]

theorem storeOp_out {o : Oper} {a : Act} {w : World} {env m} {K} {T : TypeId} {x v : Operand} {X V : AVal} (ho : o.op = .store T x v) (h : storeOp P m T X V K) (hx : Rep env X (a.eval x)) (hv : Rep env V (a.eval v)) (hM : MemH w0 F env m w) : Out P o a w w0 F env K := by
  obtain ⟨fp, hf⟩ := hM
  unfold storeOp at h
  split at h
  · rename_i t off new i hnew hi
    obtain ⟨hrv, h1⟩ := AVal.cells_rep hv hnew
    split at h
    · rename_i E cells hm
      rw [nth?_eq] at hm
      split at h
      · rename_i hsz
        split at h
        · rename_i hle
          rw [forceL_eq, setK_eq] at h
          obtain ⟨b, hb, hvx⟩ := hx
          obtain ⟨cs, fr, hcb, hrep, hone, hfree, hfp⟩ := box_cells hf hm hb
          have hln := hrv.length
          have hlc := hrep.length
          obtain ⟨w', hrun, hb', hk, hs, e1, e2, e3⟩ := run_storeVar (P := P) (T := T) (o := off) w hcb hfree hi (v := a.eval v) (by rw [← hsz, ← hln]; simp) (by rw [← Array.length_toList]; omega) h1
          refine .inl ⟨undef, w', .sc .undef, _, env, .inr ⟨?_, rfl⟩, h, Ext.refl _, rfl, fp, ?_⟩
          · simp only [execOp, ho, hvx, Sem.run_bind, Instr.storeAt, Instr.sureAddr, Sem.run_pure, Result.andThen_ok, hrun]
          · refine hf.turn t (fun k hkl hk' => hk k (fun e => hk' ((hfp k).2 e))) e1 e2 e3 (by omega) _ ?_
            intro u hu
            rw [hb] at hu
            cases hu
            exact ⟨b, _, fr, rfl, hb', SRepL.setAll off hrep hrv, setAll_mem _ _ _ _ hone h1, by rw [setAll_length]; exact hfree, hfp⟩
        · exact h.elim
      · exact h.elim
    · exact h.elim
  · rename_i t sz j off new i hnew hi
    obtain ⟨hrv, h1⟩ := AVal.cells_rep hv hnew
    split at h
    · rename_i Kd xs hm
      rw [nth?_eq] at hm
      split at h
      · rename_i hsz0
        subst hsz0
        split at h
        · rename_i hsz
          split at h
          · rename_i hle
            split at h
            · rename_i y hy
              rw [setK_eq] at h
              obtain ⟨b, o', n, c, hb, hin, hvx⟩ := hx
              obtain ⟨hown, hfp⟩ := hf.item t _ _ hm hb
              obtain ⟨hl0, h0 | ⟨g, cap, cur, he, hbg, hg, hnc, hcm, hcs, htk⟩⟩ := hown
              · exact absurd h0.1 (by simp)
              · cases he
                have hln := hrv.length
                have hj : j < xs.length := hin
                have hcl : (Kd.cells xs).length ≤ cur.toList.length := by
                  rw [← htk]; simp; omega
                have hbound : (j * Kd.sz + off) + (a.eval v).cells.size ≤ cur.toList.length := by
                  have := Kd.cells_length xs
                  have hm1 : (j + 1) * Kd.sz ≤ xs.length * Kd.sz := Nat.mul_le_mul_right _ hj
                  rw [Nat.add_mul] at hm1
                  rw [← Array.length_toList]; omega
                have hfree : free (0, 0) cur.toList.length := fun q _ => by simp
                obtain ⟨w', hrun, hb', hk, hs, e1, e2, e3⟩ := run_storeVar (P := P) (T := T) (o := j * Kd.sz + off) (cs := cur.toList) w hg hfree hi (v := a.eval v) (by rw [← hsz, ← hln]; simp) hbound h1
                have henc : setAll (Kd.enc (xs.getD j Kd.d)) off (a.eval v).cells.toList = Kd.enc y := by
                  have hra := (Kd.rep env (nth xs j Kd.d) _).2 rfl
                  have := Kd.dec_ok _ _ hy env _ (SRepL.setAll off hra hrv)
                  rwa [nth_eq] at this
                have hset := Kd.cells_set xs j off y (a.eval v).cells.toList hj (by omega) henc
                refine .inl ⟨undef, w', .sc .undef, _, env, .inr ⟨?_, rfl⟩, h, Ext.refl _, rfl, fp, ?_⟩
                · simp only [execOp, ho, hvx, Sem.run_bind, Instr.storeAt, Instr.sureAddr, Sem.run_pure, Result.andThen_ok, Nat.zero_add, hrun]
                · have hgfp : ∀ k, fp t k ↔ k = b := fun k => by rw [hfp k]; simp [Value.ownBlock]; exact ⟨fun e => e.symm, fun e => e.symm⟩
                  refine hf.turn t (fun k hkl hk' => hk k (fun e => hk' ((hgfp k).2 e))) e1 e2 e3 (by omega) _ ?_
                  intro u hu
                  rw [hb] at hu
                  cases hu
                  refine ⟨⟨by rw [Kd.cells_length], .inr ⟨b, c, _, by simp, hbg, hb', by simpa using hnc, hcm, by simp [setAll_length, hcs], ?_⟩⟩, hfp⟩
                  have htk' : cur.toList = Kd.cells xs ++ cur.toList.drop (xs.length * Kd.sz) := by
                    rw [← htk]; exact (List.take_append_drop _ _).symm
                  show List.take _ (setAll cur.toList _ _) = _
                  rw [htk', setAll_append_left _ _ _ _ (by
                    have := Kd.cells_length xs
                    have hm1 : (j + 1) * Kd.sz ≤ xs.length * Kd.sz := Nat.mul_le_mul_right _ hj
                    rw [Nat.add_mul] at hm1
                    omega), hset]
                  rw [List.take_append_of_le_length (by rw [Kd.cells_length]; simp)]
                  exact List.take_of_length_le (by rw [Kd.cells_length]; simp)
            · exact h.elim
          · exact h.elim
        · exact h.elim
      · exact h.elim
    · exact h.elim
  · exact h.elim

/-! ### addresses -/
def fieldOff (P : Program) (S : TypeId) (f : Nat) : Option Nat :=
  match P.underlying S with
  | some (.struct fields) => match nth? fields.toList f with
    | some fl => match P.info? fl.type with
      | some i => if i.size = 0 then none else some fl.offset
      | none => none
    | none => none
  | _ => none

def fieldAddrOp (P : Program) (m : List Item) (S : TypeId) (x : AVal) (f : Nat) (K : AVal → List Item → Prop) : Prop :=
  match x, fieldOff P S f with
  | .sc (.fld t off), some d => K (.sc (.fld t (off + d))) m
  | .sc (.elt t sz i off), some d => K (.sc (.elt t sz i (off + d))) m
  | _, _ => False

theorem fieldAt_run {S : TypeId} {f d : Nat} (h : fieldOff P S f = some d) (w : World) (b o : Nat) : (Instr.fieldAt S (.pointer (some ⟨b, o, none⟩)) f).run P w = .ok (.pointer (some ⟨b, o + d, none⟩)) w := by
  unfold fieldOff at h
  split at h
  · rename_i fields hS
    split at h
    · rename_i fl hfl
      rw [nth?_eq] at hfl
      split at h
      · rename_i i hi
        split at h
        · cases h
        · rename_i hne
          cases h
          have hfl' : fields[f]? = some fl := by rw [← Array.getElem?_toList]; exact hfl
          simp only [Instr.fieldAt, Sem.run_bind, run_underlying w hS, Result.andThen_ok, hfl', Instr.sureAddr, Sem.run_pure, fieldPlace, run_sizeOf w hi, hne, if_false, add_at]
      · cases h
    · cases h
  · cases h

theorem fieldAddrOp_out {o : Oper} {a : Act} {w : World} {env m} {K} {S : TypeId} {x : Operand} {f : Nat} {X : AVal} (ho : o.op = .fieldAddr S x f) (h : fieldAddrOp P m S X f K) (hx : Rep env X (a.eval x)) (hM : MemH w0 F env m w) : OutQ P o a w env m K := by
  unfold fieldAddrOp at h
  split at h
  · rename_i t off d hd
    obtain ⟨b, hb, hv⟩ := hx
    refine OutQ.mk (v := .pointer (some ⟨b, off + d, none⟩)) ?_ h ⟨b, hb, rfl⟩
    simp only [execOp, ho, hv, Sem.run_bind, fieldAt_run hd, Result.andThen_ok, Sem.run_pure]
  · rename_i t sz i off d hd
    obtain ⟨b, o', n, c, hb, hin, hv⟩ := hx
    refine OutQ.mk (v := .pointer (some ⟨b, o' + (i * sz + off) + d, none⟩)) ?_ h ⟨b, o', n, c, hb, hin, by rw [Nat.add_assoc, Nat.add_assoc]⟩
    simp only [execOp, ho, hv, Sem.run_bind, fieldAt_run hd, Result.andThen_ok, Sem.run_pure]
  · exact h.elim

def indexAddrOp (P : Program) (m : List Item) (T : TypeId) (x ix : AVal) (K : AVal → List Item → Prop) : Prop :=
  match P.underlying T, x, ix with
  | some (.slice elem), .sc (.h t), .sc (.int _ k n) =>
    match nth? m t, P.info? elem with
    | some it, some i => match it.row with
      | some ⟨Kd, xs⟩ => if i.size = Kd.sz then Need (0 ≤ n ∧ n < (xs.length : Int)) (K (.sc (.elt t Kd.sz n.toNat 0)) m) else False
      | none => False
    | _, _ => False
  | some (.slice elem), .sc (.sub t sz so sn), .sc (.int _ k n) =>
    match nth? m t, P.info? elem with
    | some it, some i => match it.row with
      | some ⟨Kd, xs⟩ => if i.size = Kd.sz ∧ sz = Kd.sz then Need (0 ≤ n ∧ n < (sn : Int)) (K (.sc (.elt t Kd.sz (so + n.toNat) 0)) m) else False
      | none => False
    | _, _ => False
  | some (.array len elem), .sc (.fld t off), .sc (.int _ k n) =>
    match P.info? elem with
    | some i => if 0 ≤ n ∧ n < (len : Int) then K (.sc (.fld t (off + n.toNat * i.size))) m else False
    | none => False
  | _, _, _ => False

theorem indexAddrOp_out {o : Oper} {a : Act} {w : World} {env m} {K} {T : TypeId} {x ix : Operand} {X I : AVal} (ho : o.op = .indexAddr T x ix) (h : indexAddrOp P m T X I K) (hx : Rep env X (a.eval x)) (hi : Rep env I (a.eval ix)) (hM : MemH w0 F env m w) : OutQ P o a w env m K := by
  obtain ⟨fp, hf⟩ := hM
  unfold indexAddrOp at h
  split at h
  · rename_i elem t l k n hT
    split at h
    · rename_i it i hm hinfo
      rw [nth?_eq] at hm
      split at h
      · rename_i Kd xs hrow
        split at h
        · rename_i hsz
          obtain ⟨⟨h0, h1⟩, h⟩ := h
          obtain ⟨A, c, hv, hl, _, hcell⟩ := row_cells hf hm hrow hx.1
          obtain ⟨b, o', rfl, hc⟩ := hcell (by intro e; subst e; simp at h1; omega)
          have hi' : a.eval ix = .int k n := hi
          refine OutQ.mk (v := .pointer (some ⟨b, o' + n.toNat * Kd.sz, none⟩)) ?_ h ⟨b, o', xs.length, c, by rw [hx.1, hv], by omega, by simp⟩
          simp only [execOp, ho, hi', hv, Sem.run_bind, Instr.indexAt, asIntOf, run_underlying w hT, Result.andThen_ok, Sem.run_pure, h0, h1, and_self, if_true, run_sizeOf w hinfo, hsz, add_at]
        · exact h.elim
      · exact h.elim
    · exact h.elim
  · rename_i elem t sz so sn l k n hT
    split at h
    · rename_i it i hm hinfo
      rw [nth?_eq] at hm
      split at h
      · rename_i Kd xs hrow
        split at h
        · rename_i hsz
          obtain ⟨hsz, rfl⟩ := hsz
          obtain ⟨⟨h0, h1⟩, h⟩ := h
          obtain ⟨A0, n0, c0, he, hle, hv⟩ := hx
          obtain ⟨A, c, hv0, hl, _, hcell⟩ := row_cells' hf hm hrow he
          cases hv0
          obtain ⟨b, o', rfl, hc⟩ := hcell (by intro e; subst e; simp at hle; omega)
          have hi' : a.eval ix = .int k n := hi
          have hlc := hl.2
          rw [if_neg (by omega)] at hv
          refine OutQ.mk (v := .pointer (some ⟨b, o' + so * Kd.sz + n.toNat * Kd.sz, none⟩)) ?_ h ⟨b, o', xs.length, c0, he, by omega, by rw [Nat.add_mul]; simp [Nat.add_assoc]⟩
          simp only [execOp, ho, hi', hv, Sem.run_bind, Instr.indexAt, asIntOf, run_underlying w hT, Result.andThen_ok, Sem.run_pure, h0, h1, and_self, if_true, run_sizeOf w hinfo, hsz, add_at, Option.map_some]
        · exact h.elim
      · exact h.elim
    · exact h.elim
  · rename_i len elem t off l k n hT
    split at h
    · rename_i i hinfo
      split at h
      · rename_i h01
        obtain ⟨b, hb, hv⟩ := hx
        have hi' : a.eval ix = .int k n := hi
        refine OutQ.mk (v := .pointer (some ⟨b, off + n.toNat * i.size, none⟩)) ?_ h ⟨b, hb, rfl⟩
        simp only [execOp, ho, hi', hv, Sem.run_bind, Instr.indexAt, Instr.sureAddr, asIntOf, run_underlying w hT, Result.andThen_ok, Sem.run_pure, h01, and_self, if_true, run_sizeOf w hinfo, add_at]
      · exact h.elim
    · exact h.elim
  · exact h.elim

end Go.AM

namespace Go.AM
open Go
variable {P : Program} {w0 : World} {F : Nat → Prop}

/-! ### building structs and arrays -/
theorem fold_setAll : ∀ (l : List Value) (k off : Nat) (cs : List Value), (l.zipIdx k).foldl (fun (cs : Array Value) (x : Value × Nat) => cs.setIfInBounds (off + x.2) x.1) ⟨cs⟩ = ⟨setAll cs (off + k) l⟩
  | [], _, _, _ => rfl
  | v :: l, k, off, cs => by
    simp only [List.zipIdx_cons, List.foldl_cons, setAll, List.setIfInBounds_toArray]
    rw [fold_setAll l (k + 1) off (cs.set (off + k) v), Nat.add_assoc]

def fillA (place : Nat → Option (Nat × Nat)) : List Sc → List (Nat × AVal) → Option (List Sc)
  | cells, [] => some cells
  | cells, (i, v) :: rest =>
    match place i, v.cells with
    | some (off, size), some cs => if cs.length = size then (if off + cs.length ≤ cells.length then fillA place (setAllS cells off cs) rest else none) else none
    | _, _ => none

def PartsRep (env : List Value) : List (Nat × AVal) → List (Nat × Value) → Prop
  | [], vs => vs = []
  | (i, x) :: xs, vs => ∃ v vs', vs = (i, v) :: vs' ∧ Rep env x v ∧ PartsRep env xs vs'

theorem fillA_rep {env : List Value} {place place' : Nat → Option (Nat × Nat)} (hp : ∀ i p, place i = some p → place' i = some p) : ∀ {parts : List (Nat × AVal)} {vs : List (Nat × Value)} {cells cells' : List Sc} {cs : List Value},
    fillA place cells parts = some cells' → PartsRep env parts vs → SRepL env cells cs → (∀ u ∈ cs, u.oneCell' = true) → ∃ cs', Instr.fill place' ⟨cs⟩ vs = some ⟨cs'⟩ ∧ SRepL env cells' cs' ∧ (∀ u ∈ cs', u.oneCell' = true)
  | [], vs, cells, cells', cs, h, hr, hc, h1 => by
    cases hr
    simp only [fillA, Option.some.injEq] at h
    subst h
    exact ⟨cs, rfl, hc, h1⟩
  | (i, x) :: parts, _, cells, cells', cs, h, hr, hc, h1 => by
    obtain ⟨v, vs', rfl, hv, hr⟩ := hr
    simp only [fillA] at h
    split at h
    · rename_i off size new hpl hnew
      obtain ⟨hrv, h1v⟩ := AVal.cells_rep hv hnew
      split at h
      · rename_i hsz
        split at h
        · rename_i hle
          have hln := hrv.length
          have hlc := hc.length
          obtain ⟨cs', hf, hr', h1'⟩ := fillA_rep hp h hr (SRepL.setAll off hc hrv) (setAll_mem _ _ _ _ h1 h1v)
          refine ⟨cs', ?_, hr', h1'⟩
          rw [Instr.fill, hp _ _ hpl]
          have e1 : v.cells.size = size := by rw [← hsz, ← hln]; simp
          have e2 : ¬ (off + v.cells.size > cs.length) := by rw [← Array.length_toList]; omega
          simp only [e1, ne_eq, not_true_eq_false, decide_false, Bool.false_or, List.size_toArray]
          rw [if_neg (by rw [← e1]; simpa using e2)]
          rw [← Array.foldl_toList, Array.toList_zipIdx, fold_setAll]
          exact hf
        · cases h
      · cases h
    · cases h

def builtA (P : Program) (T : TypeId) (parts : List (Nat × AVal)) : Option (List Sc) :=
  match P.info? T, P.underlying T with
  | some it, some (.array _ e) =>
    match it.zero, P.info? e with
    | some z, some ie => (match (cv z).cells with | some zs => fillA (fun i => some (i * ie.size, ie.size)) zs parts | none => none)
    | _, _ => none
  | some it, some (.struct fields) =>
    match it.zero, fields.toList.mapM (fun f => (P.info? f.type).map fun i => (f.offset, i.size)) with
    | some z, some places => (match (cv z).cells with | some zs => fillA (fun i => nth? places i) zs parts | none => none)
    | _, _ => none
  | _, _ => none

theorem builtA_rep {env : List Value} {T : TypeId} {parts : List (Nat × AVal)} {vs : List (Nat × Value)} {cells : List Sc} (h : builtA P T parts = some cells) (hr : PartsRep env parts vs) :
    ∃ cs, P.built T vs = some ⟨cs⟩ ∧ SRepL env cells cs := by
  unfold builtA at h
  unfold Program.built
  split at h
  · rename_i it n e hit hu
    rw [hit, hu]
    split at h
    · rename_i z ie hz hie
      split at h
      · rename_i zs hzs
        obtain ⟨hr0, h10⟩ := AVal.cells_rep (cv_rep env z) hzs
        obtain ⟨cs', hf, hr', _⟩ := fillA_rep (place' := fun i => some (i * ie.size, ie.size)) (fun i p hp => hp) h hr hr0 h10
        simp only [hz, hie]
        exact ⟨cs', hf, hr'⟩
      · cases h
    · cases h
  · rename_i it fields hit hu
    rw [hit, hu]
    split at h
    · rename_i z places hz hpl
      split at h
      · rename_i zs hzs
        obtain ⟨hr0, h10⟩ := AVal.cells_rep (cv_rep env z) hzs
        obtain ⟨cs', hf, hr', _⟩ := fillA_rep (place' := (places.toArray[·]?)) (fun i p hp => by rw [nth?_eq] at hp; simpa using hp) h hr hr0 h10
        simp only [hz, hpl]
        exact ⟨cs', hf, hr'⟩
      · cases h
    · cases h
  · cases h

def evParts (ts : List AVal) : List (Nat × Operand) → List (Nat × AVal)
  | [] => []
  | (i, o) :: ps => (i, ev ts o) :: evParts ts ps
theorem evParts_rep {env : List Value} {ts : List AVal} {a : Act} (h : RepL env ts a.tmps.toList) : ∀ ps : List (Nat × Operand), PartsRep env (evParts ts ps) (ps.map fun (i, x) => (i, a.eval x))
  | [] => rfl
  | (i, o) :: ps => ⟨_, _, rfl, ev_rep h o, evParts_rep h ps⟩

def buildOp (P : Program) (m : List Item) (T : TypeId) (parts : List (Nat × AVal)) (K : AVal → List Item → Prop) : Prop :=
  match builtA P T parts with
  | some cs => K (.agg cs) m
  | none => False

theorem buildOp_out {o : Oper} {a : Act} {w : World} {env m ts} {K} {T : TypeId} {parts : Array (Nat × Operand)} (ho : o.op = .build T parts) (h : buildOp P m T (evParts ts parts.toList) K) (ht : RepL env ts a.tmps.toList) (hM : MemH w0 F env m w) : OutQ P o a w env m K := by
  unfold buildOp at h
  split at h
  · rename_i cs hcs
    obtain ⟨vs, hb, hr⟩ := builtA_rep hcs (evParts_rep ht parts.toList)
    refine OutQ.mk (v := .agg ⟨vs⟩) ?_ h ⟨vs, rfl, hr⟩
    have hb' : P.built T (parts.map fun (i, x) => (i, a.eval x)).toList = some ⟨vs⟩ := by simpa using hb
    simp only [execOp, ho, Sem.run_bind, run_build w T _ _ hb', Result.andThen_ok, Sem.run_pure]
  · exact h.elim

/-! ### a slice literal -/
def kindDec (Kd : Kind) : List (Nat × AVal) → Nat → Option (List Kd.T)
  | [], _ => some []
  | (i, x) :: ps, n =>
    if i = n then
      match x.cells with
      | some cs => match Kd.dec cs, kindDec Kd ps (n + 1) with
        | some y, some ys => some (y :: ys)
        | _, _ => none
      | none => none
    else none

def bslOp (E : Eng) (m : List Item) (T : TypeId) (len : Nat) (parts : List (Nat × AVal)) (K : AVal → List Item → Prop) : Prop :=
  match E.P.underlying T with
  | some (.slice elem) => match E.P.info? elem, E.kinds elem with
    | some i, some Kd => match i.zero with
      | some z => match z.cells.size == i.size && i.size == Kd.sz && decide (elem = Kd.elem) && decide (parts.length = len) && decide (len * i.size ≤ 16777216), kindDec Kd parts 0 with
        | true, some ys => snocK m (.slc Kd ys) fun m' n => K (.sc (.h n)) m'
        | _, _ => False
      | none => False
    | _, _ => False
  | _ => False

theorem kindDec_len {Kd : Kind} : ∀ {parts : List (Nat × AVal)} {n : Nat} {ys : List Kd.T}, kindDec Kd parts n = some ys → ys.length = parts.length
  | [], _, _, h => by simp only [kindDec, Option.some.injEq] at h; subst h; rfl
  | (i, x) :: ps, n, ys, h => by
    simp only [kindDec] at h
    split at h
    · split at h
      · split at h
        · rename_i y ys' _ hys
          cases h
          simp [kindDec_len hys]
        · cases h
      · cases h
    · cases h

theorem kindDec_fill {env : List Value} {Kd : Kind} {size : Nat} (hsz : size = Kd.sz) : ∀ {parts : List (Nat × AVal)} {vs : List (Nat × Value)} {n : Nat} {ys : List Kd.T} (A B : List Value),
    kindDec Kd parts n = some ys → PartsRep env parts vs → A.length = n * size → B.length = parts.length * size →
    Instr.fill (fun i => some (i * size, size)) ⟨A ++ B⟩ vs = some ⟨A ++ Kd.cells ys⟩
  | [], vs, n, ys, A, B, h, hr, hA, hB => by
    cases hr
    simp only [kindDec, Option.some.injEq] at h
    subst h
    have : B = [] := List.eq_nil_of_length_eq_zero (by simpa using hB)
    subst this
    rfl
  | (i, x) :: ps, _, n, ys, A, B, h, hr, hA, hB => by
    obtain ⟨v, vs', rfl, hv, hr⟩ := hr
    simp only [kindDec] at h
    split at h
    · rename_i hin
      subst hin
      split at h
      · rename_i cs hcs
        obtain ⟨hrv, _⟩ := AVal.cells_rep hv hcs
        split at h
        · rename_i y ys' hy hys
          cases h
          have he := Kd.dec_ok _ _ hy env _ hrv
          have hvl : v.cells.toList.length = size := by rw [he, Kd.len, hsz]
          rw [Instr.fill]
          have e1 : v.cells.size = size := by rw [← hvl]; simp
          simp only [e1, ne_eq, not_true_eq_false, decide_false, Bool.false_or, List.size_toArray]
          simp only [List.length_cons, Nat.add_mul, Nat.one_mul] at hB
          rw [if_neg (by simp; omega)]
          rw [← Array.foldl_toList, Array.toList_zipIdx, fold_setAll]
          simp only [Nat.add_zero]
          have hsplit : B = B.take size ++ B.drop size := (List.take_append_drop _ _).symm
          have hset : setAll (A ++ B) (i * size) v.cells.toList = (A ++ Kd.enc y) ++ B.drop size := by
            rw [← hA, show A.length = A.length + 0 from rfl, setAll_append_right, hsplit, setAll_append_left _ _ _ _ (by simp [hvl]; omega)]
            rw [List.drop_append_of_le_length (by simp; omega)]
            have : setAll (B.take size) 0 v.cells.toList = v.cells.toList := by
              have hgen : ∀ (vs C D : List Value), D.length = vs.length → setAll (C ++ D) C.length vs = C ++ vs := by
                intro vs
                induction vs with
                | nil => intro C D hD; have : D = [] := List.eq_nil_of_length_eq_zero (by simpa using hD); subst this; rfl
                | cons u vs ih =>
                  intro C D hD
                  match D, hD with
                  | d :: D, hD =>
                    simp only [setAll]
                    have := ih (C ++ [u]) D (by simpa using hD)
                    simp only [List.length_append, List.length_cons, List.length_nil, List.append_assoc, List.cons_append, List.nil_append] at this
                    rw [← this]
                    congr 1
                    rw [List.set_append_right _ _ (Nat.le_refl _)]
                    simp
              have := hgen v.cells.toList [] (B.take size) (by simp [hvl]; omega)
              simpa using this
            rw [this, he]
            simp
          rw [hset]
          have ih := kindDec_fill hsz (A ++ Kd.enc y) (B.drop size) hys hr (by simp [Kd.len, hA, Nat.add_mul, hsz]) (by simp; omega)
          rw [ih]
          simp [Kind.cells]
        · cases h
      · cases h
    · cases h

theorem bslOp_out {E : Eng} {o : Oper} {a : Act} {w : World} {env m ts} {K} {T : TypeId} {len : Nat} {parts : Array (Nat × Operand)} (ho : o.op = .buildSlice T len parts) (h : bslOp E m T len (evParts ts parts.toList) K) (ht : RepL env ts a.tmps.toList) (hM : MemH w0 F env m w) : Out E.P o a w w0 F env K := by
  unfold bslOp at h
  split at h
  · rename_i elem hT
    split at h
    · rename_i i Kd hi hk
      split at h
      · rename_i z hz
        split at h
        · rename_i ys hc hys
          simp only [Bool.and_eq_true, beq_iff_eq, decide_eq_true_eq] at hc
          obtain ⟨⟨⟨⟨hz1, hsz⟩, hel⟩, hpl⟩, hlim⟩ := hc
          rw [snocK_eq] at h
          obtain ⟨fp, hf⟩ := hM
          have hyl := kindDec_len hys
          have hfill := kindDec_fill (env := env) (size := i.size) hsz (n := 0) [] ((List.range (len * i.size)).map fun q => z.cells[q % z.cells.size]!) hys (evParts_rep ht parts.toList) (by simp) (by simp [hpl])
          simp only [List.nil_append] at hfill
          refine Out.value (v := .slice (some ⟨w.heap.size, 0, none⟩) len len) (w' := { w with heap := w.heap.push (.cells ⟨Kd.cells ys⟩ elem) }) (env' := env ++ [.slice (some ⟨w.heap.size, 0, none⟩) len len]) ?_ h (Ext.append _ _) ⟨env_last hf.len _, rfl⟩ ?_
          · have hparts : (parts.map fun (i, x) => (i, a.eval x)).toList = parts.toList.map fun (i, x) => (i, a.eval x) := by simp
            have harr : ∀ zs : Array Value, (len * i.size ≠ 0 → zs = z.cells) → ((Array.range (len * i.size)).map fun q => zs[q % zs.size]!) = ⟨(List.range (len * i.size)).map fun q => z.cells[q % z.cells.size]!⟩ := by
              intro zs hzs
              apply Array.ext'
              by_cases h0 : len * i.size = 0
              · simp [h0]
              · simp [hzs h0]
            simp only [execOp, ho, Sem.run_bind, Instr.buildSlice, run_underlying w hT, Result.andThen_ok, run_sizeOf w hi, hparts]
            rw [if_neg (by have : (2 : Nat) ^ 24 = 16777216 := by decide
                           omega)]
            by_cases h0 : len * i.size = 0
            · simp only [Sem.run_ite, if_pos h0, Sem.run_bind, Sem.run_pure, Result.andThen_ok, harr #[] (fun hn => absurd h0 hn), hfill, newRow, run_newObj]
            · simp only [Sem.run_ite, if_neg h0, Sem.run_bind, run_zeroValue w hi hz, Sem.run_pure, Result.andThen_ok, harr z.cells (fun _ => rfl), hfill, newRow, run_newObj]
          · refine ⟨_, hf.snoc (w' := { w with heap := w.heap.push (.cells ⟨Kd.cells ys⟩ elem) }) (fun k hk => ?_) rfl rfl rfl (by show _ ≤ (w.heap.push _).size; simp) _ _ (fun k => k = w.heap.size) (fun k hk => ⟨by omega, by show k < (w.heap.push _).size; simp; omega⟩) ?_⟩
            · show (w.heap.push _)[k]? = _
              rw [Array.getElem?_push, if_neg (by omega)]
            · have hll : len = ys.length := by omega
              have hsmall : len ≤ maxLen := by
                have h1 : len ≤ len * i.size := Nat.le_mul_of_pos_right _ (by rw [hsz]; exact Kd.pos)
                simp only [maxLen]; omega
              subst hll
              refine ⟨⟨by rw [Kd.cells_length], .inr ⟨w.heap.size, ys.length, ⟨Kd.cells ys⟩, rfl, Nat.zero_le _, ?_, Nat.le_refl _, hsmall, by simp [Kd.cells_length], ?_⟩⟩, fun k => ?_⟩
              · subst hel
                show (w.heap.push _)[w.heap.size]? = _
                simp
              · exact List.take_of_length_le (by rw [Kd.cells_length]; exact Nat.le_refl _)
              · simp [Value.ownBlock]; exact ⟨fun e => e.symm, fun e => e.symm⟩
        · exact h.elim
      · exact h.elim
    · exact h.elim
  · exact h.elim

end Go.AM

namespace Go.AM
open Go
variable {P : Program} {w0 : World} {F : Nat → Prop}

/-! ### append -/
theorem append_move {env m w fp} (h : MemF w0 F env m w fp) (t1 : Nat) {w' : World} (hold : ∀ k, k < w.heap.size → ¬ fp t1 k → w'.heap[k]? = w.heap[k]?)
    (os : w'.os = w.os) (tape : w'.tape = w.tape) (output : w'.output = w.output) (size : w.heap.size ≤ w'.heap.size)
    (v : Value) (it : Item) (q : Nat → Prop) (hq : ∀ k, q k → (fp t1 k ∨ w.heap.size ≤ k) ∧ k < w'.heap.size) (hit : ItemH w0 F (env ++ [v]) w' v q it) :
    MemH w0 F (env ++ [v]) (m.set t1 .gone ++ [it]) w' := by
  refine ⟨fun t => if t = m.length then q else if t = t1 then (fun _ => False) else fp t, by simp [h.len], h.touch (fp t1) hold (fun k _ hk => (h.within t1 k hk).1) os tape output size, ?_, ?_, ?_, ?_⟩
  · intro t it' v' hm hv
    by_cases ht : t = m.length
    · subst ht
      rw [if_pos rfl]
      rw [List.getElem?_append_right (by simp)] at hm
      rw [List.getElem?_append_right (by rw [h.len]; exact Nat.le_refl _), h.len] at hv
      simp at hm hv
      subst hm; subst hv
      exact hit
    · rw [if_neg ht]
      have hlt : t < m.length := by
        have := (List.getElem?_eq_some_iff.1 hm).1
        simp at this; omega
      rw [List.getElem?_append_left (by simpa using hlt)] at hm
      rw [List.getElem?_append_left (by rw [h.len]; exact hlt)] at hv
      by_cases h1 : t1 = t
      · subst h1
        rw [List.getElem?_set_self hlt] at hm
        cases hm
        rw [if_pos rfl]
        exact fun _ hf => hf
      · rw [List.getElem?_set_ne h1] at hm
        rw [if_neg (fun e => h1 e.symm)]
        exact ((h.item t it' v' hm hv).ext (Ext.append _ _)).stable fun k hk => hold k (h.within t k hk).2 (fun h1k => h1 (h.apart t1 t k h1k hk))
  · intro t ht k hk
    simp at ht
    rw [if_neg (by omega)] at hk
    split at hk
    · exact hk
    · exact h.out t (by omega) k hk
  · intro t u k ht hu
    by_cases a1 : t = m.length <;> by_cases a2 : u = m.length
    · omega
    · rw [if_pos a1] at ht; rw [if_neg a2] at hu
      split at hu
      · exact hu.elim
      · rename_i hne
        rcases (hq k ht).1 with hf | hf
        · exact absurd (h.apart t1 u k hf hu) (fun e => hne e.symm)
        · have := (h.within u k hu).2; omega
    · rw [if_neg a1] at ht; rw [if_pos a2] at hu
      split at ht
      · exact ht.elim
      · rename_i hne
        rcases (hq k hu).1 with hf | hf
        · exact absurd (h.apart t1 t k hf ht) (fun e => hne e.symm)
        · have := (h.within t k ht).2; omega
    · rw [if_neg a1] at ht; rw [if_neg a2] at hu
      split at ht
      · exact ht.elim
      · split at hu
        · exact hu.elim
        · exact h.apart t u k ht hu
  · intro t k hk
    by_cases a1 : t = m.length
    · rw [if_pos a1] at hk
      have := hq k hk
      refine ⟨?_, this.2⟩
      rcases this.1 with hf | hf
      · exact (h.within t1 k hf).1
      · exact .inr (Nat.le_trans h.keep.size hf)
    · rw [if_neg a1] at hk
      split at hk
      · exact hk.elim
      · have := h.within t k hk
        exact ⟨this.1, by omega⟩

def isNilSl : AVal → Bool
  | .sc (.val (.slice none 0 0)) => true
  | _ => false
theorem isNilSl_eq {x : AVal} (h : isNilSl x = true) : x = .sc (.val (.slice none 0 0)) := by
  unfold isNilSl at h
  split at h
  · rfl
  · cases h

def appendCont (bytes : Nat) (m : List Item) (t1 : Option Nat) (K1 : Kind) (xs ys : List K1.T) (K : AVal → List Item → Prop) : Prop :=
  Need ((xs.length + ys.length) * bytes ≤ 140737488355328)
    (match t1 with
      | some t1 => setK m t1 .gone fun m1 => snocK m1 (.slc K1 (xs ++ ys)) fun m2 n => K (.sc (.h n)) m2
      | none => snocK m (.slc K1 (xs ++ ys)) fun m2 n => K (.sc (.h n)) m2)

def elemOk (P : Program) (T : TypeId) : Option (TypeId × TypeInfo × Value) :=
  match P.underlying T with
  | some (.slice e) => match P.info? e with
    | some i => match i.zero with
      | some z => if z.cells.size == i.size && i.bytes != 0 then some (e, i, z) else none
      | none => none
    | none => none
  | _ => none

/-- what an append takes its elements from -/
def srcTok : AVal → Option Nat
  | .sc (.h t) => some t
  | .sc (.sub t _ _ _) => some t
  | _ => none
def srcRow (it : Item) (x : AVal) : Option (Sigma fun K : Kind => List K.T) :=
  match it.row with
  | some ⟨K, xs⟩ => match x with
    | .sc (.h _) => some ⟨K, xs⟩
    | .sc (.sub _ sz off n) => match Nat.beq sz K.sz with
      | true => some ⟨K, (xs.drop off).take n⟩
      | false => none
    | _ => none
  | none => none
theorem Kind.cells_take (K : Kind) : ∀ (xs : List K.T) (n : Nat), K.cells (xs.take n) = (K.cells xs).take (n * K.sz)
  | [], n => by simp [Kind.cells]
  | x :: xs, 0 => by simp [Kind.cells]
  | x :: xs, n + 1 => by
    have ih := K.cells_take xs n
    simp only [Kind.cells, List.take_succ_cons, List.flatMap_cons] at ih ⊢
    rw [ih, List.take_append, K.len, Nat.add_mul, Nat.one_mul, Nat.add_sub_cancel, List.take_of_length_le (l := K.enc x) (by rw [K.len]; omega)]
theorem Kind.cells_drop (K : Kind) : ∀ (xs : List K.T) (n : Nat), K.cells (xs.drop n) = (K.cells xs).drop (n * K.sz)
  | [], n => by simp [Kind.cells]
  | x :: xs, 0 => by simp [Kind.cells]
  | x :: xs, n + 1 => by
    have ih := K.cells_drop xs n
    simp only [Kind.cells, List.drop_succ_cons, List.flatMap_cons] at ih ⊢
    rw [ih, List.drop_append, K.len, Nat.add_mul, Nat.one_mul, Nat.add_sub_cancel, List.drop_of_length_le (l := K.enc x) (by rw [K.len]; omega), List.nil_append]
theorem src_cells {env m w fp} (h : MemF w0 F env m w fp) {t : Nat} {it : Item} {v : Value} {x : AVal} {K : Kind} {ys : List K.T} (hm : m[t]? = some it) (ht : srcTok x = some t) (hr : srcRow it x = some ⟨K, ys⟩) (hx : Rep env x v) :
    ∃ A c, v = .slice A ys.length c ∧ ys.length ≤ maxLen ∧ (A = none → ys = [] ∧ c = 0) ∧ (ys ≠ [] → ∃ b o, A = some ⟨b, o, none⟩ ∧ ∀ j u, (K.cells ys)[j]? = some u → w.cell? ⟨b, o + j, none⟩ = some u) := by
  unfold srcRow at hr
  split at hr
  · rename_i K' xs hrow
    split at hr
    · cases hr
      simp only [srcTok, Option.some.injEq] at ht
      subst ht
      exact row_cells h hm hrow hx.1
    · rename_i t' sz off n
      simp only [srcTok, Option.some.injEq] at ht
      subst ht
      split at hr
      · rename_i hsz
        have hsz := Nat.eq_of_beq_eq_true hsz
        subst hsz
        cases hr
        obtain ⟨A0, n0, c0, he, hle, hv⟩ := hx
        obtain ⟨A, c, hv0, hl, hnil, hcell⟩ := row_cells' h hm hrow he
        cases hv0
        have hlen : ((xs.drop off).take n).length = n := by rw [List.length_take, List.length_drop]; omega
        refine ⟨_, _, by rw [hlen]; exact hv, by rw [hlen]; omega, ?_, ?_⟩
        · intro hA
          have hA0 : A0 = none := by
            split at hA
            · exact hA
            · cases A0 with
              | none => rfl
              | some _ => cases hA
          obtain ⟨h1, h2⟩ := hnil hA0
          subst h1
          exact ⟨by simp, by omega⟩
        · intro hne
          have hn : n ≠ 0 := by rintro rfl; exact hne (by simp)
          obtain ⟨b, o, hA, hc⟩ := hcell (by intro e; subst e; simp at hle; omega)
          subst hA
          refine ⟨b, o + off * K.sz, by rw [if_neg (by omega)]; simp [add_at], fun j u hu => ?_⟩
          rw [K.cells_take, K.cells_drop, List.getElem?_take] at hu
          split at hu
          · rw [List.getElem?_drop] at hu
            rw [Nat.add_assoc]
            exact hc _ _ hu
          · cases hu
      · cases hr
    · cases hr
  · cases hr

def appendOp (P : Program) (m : List Item) (T : TypeId) (s x : AVal) (K : AVal → List Item → Prop) : Prop :=
  match elemOk P T, srcTok x with
  | some (e, i, z), some t2 =>
    match nth? m t2 with
    | some it2 => match srcRow it2 x with
      | some ⟨K2, ys⟩ =>
        match isNilSl s with
        | true => if i.size = K2.sz ∧ e = K2.elem then appendCont i.bytes m none K2 [] ys K else False
        | false => match s with
          | .sc (.h t1) => match nth? m t1 with
            | some (.slc K1 xs) => if i.size = K1.sz ∧ e = K1.elem then Cast (K1 := K1) K2 ys fun ys' => appendCont i.bytes m (some t1) K1 xs ys' K else False
            | _ => False
          | _ => False
      | none => False
    | none => False
  | _, _ => False

theorem appendCore {e : TypeId} {i : TypeInfo} {z : Value} {T ty : TypeId} (w : World) {K1 : Kind} {xs ys : List K1.T} {v vx : Value} (hT : P.underlying T = some (.slice e)) (hi : P.info? e = some i) (hz : i.zero = some z) (hzs : z.cells.size = i.size) (hby : i.bytes ≠ 0) (hsz : i.size = K1.sz)
    (hown : w.ownsRow 0 e K1.sz v xs.length (K1.cells xs)) (hsrc : ∃ A c, vx = .slice A ys.length c ∧ (A = none → ys = [] ∧ c = 0) ∧ (ys ≠ [] → ∃ b o, A = some ⟨b, o, none⟩ ∧ ∀ j u, (K1.cells ys)[j]? = some u → w.cell? ⟨b, o + j, none⟩ = some u))
    (hb : (xs.length + ys.length) * i.bytes ≤ 140737488355328) :
    ∃ v' w', (Builtin.append_ #[T, T] ty #[v, vx]).run P w = .ok v' w' ∧ w'.ownsRow 0 e K1.sz v' (xs ++ ys).length (K1.cells (xs ++ ys)) ∧ w.grownBy w' v.ownBlock ∧ (v'.ownBlock = v.ownBlock ∨ v'.ownBlock = some w.heap.size) := by
  obtain ⟨A, c, rfl, hnil, hcell⟩ := hsrc
  have hpos := K1.pos
  cases A with
  | none =>
    obtain ⟨rfl, rfl⟩ := hnil rfl
    refine ⟨v, w, run_append_owned_none (P := P) (w := w) 0 T ty e i K1.sz hT hi v xs.length (K1.cells xs) hown, by simpa using hown, ⟨rfl, rfl, rfl, Nat.le_refl _, fun _ _ _ => rfl⟩, .inl rfl⟩
  | some ad =>
    have hmax : xs.length + ys.length ≤ maxLen := by
      have h1 : xs.length + ys.length ≤ (xs.length + ys.length) * i.bytes := Nat.le_mul_of_pos_right _ (Nat.pos_of_ne_zero hby)
      simp only [maxLen]; omega
    obtain ⟨v', w', hrun, ho, hg, _, hat⟩ := run_append_own_at (P := P) w 0 T ty e i z K1.sz i.bytes hT hi hz hsz rfl (by rw [hzs, hsz]) hpos v xs.length (K1.cells xs) hown ad ys.length c (K1.cells ys) (K1.cells_length ys)
      (fun j u hu => by
        have hne : ys ≠ [] := by intro e; subst e; simp [Kind.cells] at hu
        obtain ⟨b, o, he, hc⟩ := hcell hne
        cases he
        rw [add_at]; exact hc j u hu)
      (fun u hu => by
        unfold Kind.cells at hu
        obtain ⟨y, _, hy⟩ := List.mem_flatMap.1 hu
        exact K1.one y u hy) hmax hb (Nat.zero_le _)
    refine ⟨v', w', hrun, ?_, hg, hat⟩
    rw [K1.cells_append, List.length_append]; exact ho

theorem own_one {w : World} {b : Nat} {e : TypeId} {size n : Nat} {v : Value} {xs : List Value} (h : w.ownsRow b e size v n xs) : v.oneCell' = true := by
  rcases h.2 with ⟨rfl, _⟩ | ⟨g, cap, cur, rfl, _⟩ <;> rfl

theorem elemOk_eq {T : TypeId} {e : TypeId} {i : TypeInfo} {z : Value} (h : elemOk P T = some (e, i, z)) : P.underlying T = some (.slice e) ∧ P.info? e = some i ∧ i.zero = some z ∧ z.cells.size = i.size ∧ i.bytes ≠ 0 := by
  unfold elemOk at h
  split at h
  · rename_i e' hT
    split at h
    · rename_i i' hi
      split at h
      · rename_i z' hz
        split at h
        · rename_i hc
          simp only [Bool.and_eq_true, beq_iff_eq, bne_iff_ne, ne_eq] at hc
          cases h
          exact ⟨hT, hi, hz, hc.1, hc.2⟩
        · cases h
      · cases h
    · cases h
  · cases h

theorem appendOp_out {o : Oper} {a : Act} {w : World} {env m} {K} {T : TypeId} {s x : Operand} {S X : AVal} (ho : o.op = .call { callee := .builtin .append, args := #[s, x], argTypes := #[T, T] }) (h : appendOp P m T S X K) (hs : Rep env S (a.eval s)) (hx : Rep env X (a.eval x)) (hM : MemH w0 F env m w) : Out P o a w w0 F env K := by
  obtain ⟨fp, hf⟩ := hM
  unfold appendOp at h
  split at h
  · rename_i e i z t2 he htok
    obtain ⟨hT, hi, hz, hzs, hby⟩ := elemOk_eq he
    split at h
    · rename_i it2 hm2
      rw [nth?_eq] at hm2
      split at h
      · rename_i K2 ys hrow
        obtain ⟨A, c, hvx, hl2, hnil, hcell⟩ := src_cells hf hm2 htok hrow hx
        split at h
        · rename_i hns
          split at h
          · rename_i hk
            obtain ⟨hsz, rfl⟩ := hk
            obtain ⟨hb, h⟩ := h
            rw [snocK_eq] at h
            rw [isNilSl_eq hns] at hs
            have hs' : a.eval s = .slice none 0 0 := hs
            obtain ⟨v', w', hrun, ho', hg, hat⟩ := appendCore (P := P) (ty := o.type) w (xs := []) (ys := ys) (v := .slice none 0 0) hT hi hz hzs hby hsz (World.ownsRow_nil w 0 _ _) ⟨A, c, hvx, hnil, hcell⟩ hb
            refine Out.value (v := v') (w' := w') (env' := env ++ [v']) ?_ h (Ext.append _ _) ⟨env_last hf.len _, own_one ho'⟩ ?_
            · simp only [execOp, ho, Sem.run_bind, resolve, invoke, builtin, Sem.run_pure, Result.andThen_ok, List.map_toArray, List.map_cons, List.map_nil, hs', hrun]
            · refine ⟨_, hf.snoc (w' := w') (fun k hk => hg.block k hk (by simp [Value.ownBlock])) hg.os hg.tape hg.output hg.size v' _ (fun k => v'.ownBlock = some k) (fun k hk => ?_) ⟨ho', fun k => Iff.rfl⟩⟩
              have hlt := (ho'.lt k hk).2
              rcases hat with hat | hat
              · rw [hat] at hk; cases hk
              · rw [hat] at hk; cases hk; exact ⟨Nat.le_refl _, hlt⟩
          · exact h.elim
        · split at h
          · rename_i t1 _
            split at h
            · rename_i K1 xs hm1
              rw [nth?_eq] at hm1
              split at h
              · rename_i hk
                obtain ⟨hsz, rfl⟩ := hk
                obtain ⟨ys', _, hb, h⟩ := h
                simp only [setK_eq, snocK_eq] at h
                obtain ⟨hown, hfp⟩ := hf.item t1 _ _ hm1 hs.1
                obtain ⟨v', w', hrun, ho', hg, hat⟩ := appendCore (P := P) (ty := o.type) w (xs := xs) (ys := ys) hT hi hz hzs hby hsz hown ⟨A, c, hvx, hnil, hcell⟩ hb
                have hml : (m.set t1 Item.gone).length = m.length := by simp
                refine Out.value (v := v') (w' := w') (env' := env ++ [v']) ?_ h (Ext.append _ _) ⟨by rw [hml]; exact env_last hf.len _, own_one ho'⟩ ?_
                · simp only [execOp, ho, Sem.run_bind, resolve, invoke, builtin, Sem.run_pure, Result.andThen_ok, List.map_toArray, List.map_cons, List.map_nil, hrun]
                · refine append_move hf t1 (w' := w') (fun k hk hk' => hg.block k hk (fun e => hk' ((hfp k).2 e.symm))) hg.os hg.tape hg.output hg.size v' _ (fun k => v'.ownBlock = some k) (fun k hk => ?_) ⟨ho', fun k => Iff.rfl⟩
                  have hlt := (ho'.lt k hk).2
                  refine ⟨?_, hlt⟩
                  rcases hat with hat | hat
                  · rw [hat] at hk; exact .inl ((hfp k).2 hk)
                  · rw [hat] at hk; cases hk; exact .inr (Nat.le_refl _)
              · exact h.elim
            · exact h.elim
          · exact h.elim
      · exact h.elim
    · exact h.elim
  · exact h.elim

end Go.AM

namespace Go.AM
open Go
variable {P : Program} {w0 : World} {F : Nat → Prop}

/-! ### parts of values -/
def fieldPart (P : Program) (S : TypeId) (f : Nat) : Option (TypeId × Nat) :=
  match P.underlying S with
  | some (.struct fields) => match nth? fields.toList f with
    | some fl => some (fl.type, fl.offset)
    | none => none
  | _ => none

theorem part_run {T : TypeId} {cells : List Sc} {off : Nat} {r : AVal} (h : loadA P T cells off = some r) {env : List Value} {cs : List Value} (hr : SRepL env cells cs) (w : World) :
    ∃ v, (part T ⟨cs⟩ off).run P w = .ok v w ∧ Rep env r v := by
  unfold loadA at h
  split at h
  · cases h
  · rename_i d hd
    split at h
    · rename_i ha
      split at h
      · cases h
      · rename_i i hi
        split at h
        · rename_i hle
          cases h
          have hl := hr.length
          refine ⟨.agg ⟨(cs.drop off).take i.size⟩, ?_, _, rfl, (hr.drop off).take i.size⟩
          simp only [part, Sem.run_bind, run_isAgg w hd, Result.andThen_ok, ha, if_true, run_sizeOf w hi, Sem.run_pure]
          congr 2
          apply Array.ext'
          simp [List.drop_take]
        · cases h
    · rename_i ha
      split at h
      · rename_i x hx
        cases h
        rw [nth?_eq] at hx
        obtain ⟨v, hv, hrep⟩ := hr.get off hx
        refine ⟨v, ?_, hrep⟩
        simp only [part, Sem.run_bind, run_isAgg w hd, Result.andThen_ok]
        rw [if_neg ha]
        simp [hv]
      · cases h

def fieldOp (P : Program) (m : List Item) (S : TypeId) (x : AVal) (f : Nat) (K : AVal → List Item → Prop) : Prop :=
  match x, fieldPart P S f with
  | .agg cs, some (T, d) => match loadA P T cs d with
    | some r => K r m
    | none => False
  | _, _ => False

theorem fieldOp_out {o : Oper} {a : Act} {w : World} {env m} {K} {S : TypeId} {x : Operand} {f : Nat} {X : AVal} (ho : o.op = .field S x f) (h : fieldOp P m S X f K) (hx : Rep env X (a.eval x)) (hM : MemH w0 F env m w) : OutQ P o a w env m K := by
  unfold fieldOp at h
  split at h
  · rename_i cs T d hfp
    split at h
    · rename_i r hr
      obtain ⟨vs, hv, hrep⟩ := hx
      obtain ⟨v, hrun, hrv⟩ := part_run hr hrep w
      unfold fieldPart at hfp
      split at hfp
      · rename_i fields hS
        split at hfp
        · rename_i fl hfl
          cases hfp
          rw [nth?_eq] at hfl
          have hfl' : fields[f]? = some fl := by rw [← Array.getElem?_toList]; exact hfl
          refine OutQ.mk (v := v) ?_ h hrv
          simp only [execOp, ho, hv, Sem.run_bind, Instr.field, run_underlying w hS, Result.andThen_ok, hfl', asAgg, Sem.run_pure, hrun]
        · cases hfp
      · cases hfp
    · exact h.elim
  · exact h.elim

def byteAt (s : ByteArray) (i : Nat) : Int := ((s.data.toList.getD i 0).toNat : Int)

def indexOp (P : Program) (m : List Item) (T : TypeId) (x ix : AVal) (K : AVal → List Item → Prop) : Prop :=
  match P.underlying T, x, ix with
  | some .string, .sc (.str s), .sc (.int _ _ n) => Need (0 ≤ n ∧ n < (s.size : Int)) (K (.sc (.int false .u8 (byteAt s n.toNat))) m)
  | some (.array len elem), .agg cs, .sc (.int _ _ n) =>
    match P.info? elem with
    | some i => if 0 ≤ n ∧ n < (len : Int) then (match loadA P elem cs (n.toNat * i.size) with
      | some r => K r m
      | none => False) else False
    | none => False
  | _, _, _ => False

theorem indexOp_out {o : Oper} {a : Act} {w : World} {env m} {K} {T : TypeId} {x ix : Operand} {X I : AVal} (ho : o.op = .index T x ix) (h : indexOp P m T X I K) (hx : Rep env X (a.eval x)) (hi : Rep env I (a.eval ix)) (hM : MemH w0 F env m w) : OutQ P o a w env m K := by
  unfold indexOp at h
  split at h
  · rename_i s l k n hT
    obtain ⟨⟨h0, h1⟩, h⟩ := h
    have hx' : a.eval x = .string s := hx
    have hi' : a.eval ix = .int k n := hi
    refine OutQ.mk (v := .int .u8 (byteAt s n.toNat)) ?_ h rfl
    have hlt : n.toNat < s.size := by omega
    have hb : s[n.toNat]? = some s[n.toNat] := getElem?_pos s n.toNat hlt
    have hba : byteAt s n.toNat = (s[n.toNat].toNat : Int) := by
      unfold byteAt
      rw [List.getD_eq_getElem?_getD, Array.getElem?_toList]
      have : s.data[n.toNat]? = some s[n.toNat] := getElem?_pos s.data n.toNat hlt
      rw [this]; rfl
    simp only [execOp, ho, hi', hx', Sem.run_bind, Instr.index, asIntOf, run_underlying w hT, Result.andThen_ok, Sem.run_pure, h0, if_true, hb, hba]
  · rename_i len elem cs l k n hT
    split at h
    · rename_i i hinfo
      split at h
      · rename_i h01
        split at h
        · rename_i r hr
          obtain ⟨vs, hv, hrep⟩ := hx
          have hi' : a.eval ix = .int k n := hi
          obtain ⟨v, hrun, hrv⟩ := part_run hr hrep w
          refine OutQ.mk (v := v) ?_ h hrv
          simp only [execOp, ho, hi', hv, Sem.run_bind, Instr.index, asIntOf, run_underlying w hT, Result.andThen_ok, Sem.run_pure, h01, and_self, if_true, run_sizeOf w hinfo, hrun]
        · exact h.elim
      · exact h.elim
    · exact h.elim
  · exact h.elim

/-! ### slicing a string; the slice over an array -/
def bndLow : Option AVal → Option (Option Int)
  | none => some none
  | some (.sc (.int _ _ n)) => some (some n)
  | _ => none

def sliceOp (P : Program) (m : List Item) (T : TypeId) (x : AVal) (lo hi mx : Option AVal) (K : AVal → List Item → Prop) : Prop :=
  match P.underlying T, x, bndLow lo, bndLow hi, mx with
  | some .string, .sc (.str s), some l, some h, none =>
    Need (0 ≤ h.getD s.size ∧ h.getD s.size ≤ (s.size : Int)) (Need (0 ≤ l.getD 0 ∧ l.getD 0 ≤ h.getD s.size) (K (.sc (.str (s.extract (l.getD 0).toNat (h.getD s.size).toNat))) m))
  | some (.array n elem), .sc (.fld t off), some none, some none, none =>
    match P.info? elem with
    | some i => K (.sc (.bsl t off n)) m
    | none => False
  | some (.slice elem), .sc (.h t), some l, some h, none =>
    match nth? m t, P.info? elem with
    | some (.slx Kd xs N), some i => if i.size = Kd.sz then Need (0 ≤ h.getD xs.length ∧ h.getD xs.length ≤ (N : Int)) (Need (0 ≤ l.getD 0 ∧ l.getD 0 ≤ h.getD xs.length) (K (.sc (.tail t Kd.sz (l.getD 0).toNat ((h.getD xs.length).toNat - (l.getD 0).toNat))) m)) else False
    | some it, some i => match it.row with
      | some ⟨Kd, xs⟩ => if i.size = Kd.sz then Need (0 ≤ h.getD xs.length ∧ h.getD xs.length ≤ (xs.length : Int)) (Need (0 ≤ l.getD 0 ∧ l.getD 0 ≤ h.getD xs.length) (K (.sc (.sub t Kd.sz (l.getD 0).toNat ((h.getD xs.length).toNat - (l.getD 0).toNat))) m)) else False
      | none => False
    | _, _ => False
  | some (.slice elem), .sc (.h t), some (some l), some (some h), some (.sc (.int _ _ c)) =>
    match nth? m t, P.info? elem with
    | some it, some i => match it.row with
      | some ⟨Kd, xs⟩ => Need ((0 ≤ c ∧ c ≤ (xs.length : Int)) ∧ (0 ≤ h ∧ h ≤ c) ∧ 0 ≤ l ∧ l ≤ h) (K .any m)
      | none => False
    | _, _ => False
  | _, _, _, _, _ => False

def optEv (ts : List AVal) : Option Operand → Option AVal
  | none => none
  | some o => some (ev ts o)

theorem bnd_run {env : List Value} {ts : List AVal} {a : Act} (ht : RepL env ts a.tmps.toList) {lo : Option Operand} {l : Option Int} (h : bndLow (optEv ts lo) = some l) :
    (lo = none ∧ l = none) ∨ ∃ k n, lo.map a.eval = some (.int k n) ∧ l = some n := by
  cases lo with
  | none => simp only [optEv, bndLow, Option.some.injEq] at h; exact .inl ⟨rfl, h.symm⟩
  | some x =>
    simp only [optEv] at h
    have hr := ev_rep ht x
    generalize ev ts x = X at h hr
    unfold bndLow at h
    split at h
    · rename_i he; cases he
    · rename_i lt k n he
      simp only [Option.some.injEq] at he h
      subst he
      exact .inr ⟨k, n, by simp only [Option.map_some]; rw [show a.eval x = _ from hr], h.symm⟩
    · cases h

theorem sliceOp_out {o : Oper} {a : Act} {w : World} {env m ts} {K} {T : TypeId} {x : Operand} {lo hi mx : Option Operand} (ho : o.op = .slice T x lo hi mx) (h : sliceOp P m T (ev ts x) (optEv ts lo) (optEv ts hi) (optEv ts mx) K) (ht : RepL env ts a.tmps.toList) (hM : MemH w0 F env m w) : OutQ P o a w env m K := by
  have hx := ev_rep ht x
  unfold sliceOp at h
  split at h
  · rename_i s l hh hT hX hl hhi hmx
    obtain ⟨⟨h0, h1⟩, ⟨h2, h3⟩, h⟩ := h
    rw [hX] at hx
    have hx' : a.eval x = .string s := hx
    have hmx' : mx = none := by cases mx with | none => rfl | some _ => cases hmx
    subst hmx'
    refine OutQ.mk (v := .string (s.extract (l.getD 0).toNat (hh.getD s.size).toNat)) ?_ h rfl
    clear hM h hx hX
    rcases bnd_run ht hhi with ⟨rfl, rfl⟩ | ⟨k, n, he, rfl⟩ <;> rcases bnd_run ht hl with ⟨rfl, rfl⟩ | ⟨k', n', he', rfl⟩ <;> simp only [Option.getD_some, Option.getD_none] at h0 h1 h2 h3 ⊢
    · simp [execOp, ho, hx', Instr.sliceAt, Instr.slice, run_underlying w hT, Instr.sliceBounds]
    · have h3' : n' ≤ (s.size : Int) := h3
      simp [execOp, ho, hx', Instr.sliceAt, Instr.slice, run_underlying w hT, Instr.sliceBounds, he', Instr.sliceBound, asIntOf, h2, h3']
    · simp [execOp, ho, hx', Instr.sliceAt, Instr.slice, run_underlying w hT, Instr.sliceBounds, he, Instr.sliceBound, asIntOf, h0, h1]
    · have h3' : n' ≤ ((n.toNat : Nat) : Int) := by omega
      simp only [execOp, ho, hx', Instr.sliceAt, Instr.slice, run_underlying w hT, Instr.sliceBounds, he, he', Instr.sliceBound, asIntOf, h0, h1, h2, h3', Sem.run_bind, Result.andThen_ok, Sem.run_pure, Option.map_none, Option.isSome_none, Bool.false_eq_true, if_false, and_self, if_true, Sem.run_ite]
  · rename_i n elem t off hT hX hl hhi hmx
    split at h
    · rename_i i hi'
      rw [hX] at hx
      obtain ⟨b, hb, hv⟩ := hx
      have hmx' : mx = none := by cases mx with | none => rfl | some _ => cases hmx
      have hlo' : lo = none := by rcases bnd_run ht hl with ⟨h, _⟩ | ⟨k, n, _, h⟩; exact h; cases h
      have hhi' : hi = none := by rcases bnd_run ht hhi with ⟨h, _⟩ | ⟨k, n, _, h⟩; exact h; cases h
      subst hmx'; subst hlo'; subst hhi'
      refine OutQ.mk (v := .slice (some ⟨b, off, none⟩) n n) ?_ h ⟨b, hb, rfl⟩
      simp only [execOp, ho, hv, Sem.run_bind, Instr.sliceAt, Instr.sureAddr, run_underlying w hT, Result.andThen_ok, Sem.run_pure, Option.map_none, Instr.sliceBounds, run_sizeOf w hi', Nat.zero_mul, Nat.sub_zero]
      congr 3
      split
      · rfl
      · simp [add_at]
    · exact h.elim
  · rename_i elem t l hh hT hX hl hhi hmx
    split at h
    · rename_i Kd xs N i hm hinfo
      rw [nth?_eq] at hm
      split at h
      · rename_i hsz
        obtain ⟨⟨h0, h1⟩, ⟨h2, h3⟩, h⟩ := h
        rw [hX] at hx
        obtain ⟨fp, hf⟩ := hM
        obtain ⟨⟨_, A, len, c, hv, hNc⟩, _⟩ := hf.item t _ _ hm hx.1
        have hmx' : mx = none := by cases mx with | none => rfl | some _ => cases hmx
        subst hmx'
        obtain ⟨A', c', hv', _⟩ := row_cells hf hm rfl hx.1
        have hlen : len = xs.length := by rw [hv] at hv'; cases hv'; rfl
        subst hlen
        refine OutQ.mk (v := .slice (if c = (l.getD 0).toNat then A else A.map (fun a => a.add ((l.getD 0).toNat * Kd.sz))) ((hh.getD xs.length).toNat - (l.getD 0).toNat) (c - (l.getD 0).toNat)) ?_ h ⟨A, xs.length, c, by rw [hx.1, hv], by omega, rfl⟩
        clear hf h hx hX
        rcases bnd_run ht hhi with ⟨rfl, rfl⟩ | ⟨k, n, he, rfl⟩ <;> rcases bnd_run ht hl with ⟨rfl, rfl⟩ | ⟨k', n', he', rfl⟩ <;> simp only [Option.getD_some, Option.getD_none] at h0 h1 h2 h3 ⊢
        · simp [execOp, ho, hv, Instr.sliceAt, Instr.slice, run_underlying w hT, Instr.sliceBounds, run_sizeOf w hinfo, hsz]
        · have h3' : n' ≤ (xs.length : Int) := h3
          simp [execOp, ho, hv, Instr.sliceAt, Instr.slice, run_underlying w hT, Instr.sliceBounds, he', Instr.sliceBound, asIntOf, h2, h3', run_sizeOf w hinfo, hsz]
        · have h1' : n ≤ (c : Int) := by omega
          simp [execOp, ho, hv, Instr.sliceAt, Instr.slice, run_underlying w hT, Instr.sliceBounds, he, Instr.sliceBound, asIntOf, h0, h1', run_sizeOf w hinfo, hsz]
        · have h3' : n' ≤ ((n.toNat : Nat) : Int) := by omega
          have h1' : n ≤ (c : Int) := by omega
          simp only [execOp, ho, hv, Instr.sliceAt, Instr.slice, run_underlying w hT, Instr.sliceBounds, he, he', Instr.sliceBound, asIntOf, h0, h1', h2, h3', Sem.run_bind, Result.andThen_ok, Sem.run_pure, Option.map_none, Option.isSome_none, Bool.false_eq_true, if_false, and_self, if_true, Sem.run_ite, run_sizeOf w hinfo, hsz]
      · exact h.elim
    · rename_i it i hnx hm hinfo
      rw [nth?_eq] at hm
      split at h
      · rename_i Kd xs hrow
        split at h
        · rename_i hsz
          obtain ⟨⟨h0, h1⟩, ⟨h2, h3⟩, h⟩ := h
          rw [hX] at hx
          obtain ⟨fp, hf⟩ := hM
          obtain ⟨A, c, hv, hlen, _⟩ := row_cells' hf hm hrow hx.1
          have hlc := hlen.2
          have hmx' : mx = none := by cases mx with | none => rfl | some _ => cases hmx
          subst hmx'
          refine OutQ.mk (v := .slice (if c = (l.getD 0).toNat then A else A.map (fun a => a.add ((l.getD 0).toNat * Kd.sz))) ((hh.getD xs.length).toNat - (l.getD 0).toNat) (c - (l.getD 0).toNat)) ?_ h ⟨A, xs.length, c, by rw [hx.1, hv], by omega, rfl⟩
          clear hf h hx hX
          rcases bnd_run ht hhi with ⟨rfl, rfl⟩ | ⟨k, n, he, rfl⟩ <;> rcases bnd_run ht hl with ⟨rfl, rfl⟩ | ⟨k', n', he', rfl⟩ <;> simp only [Option.getD_some, Option.getD_none] at h0 h1 h2 h3 ⊢
          · simp [execOp, ho, hv, Instr.sliceAt, Instr.slice, run_underlying w hT, Instr.sliceBounds, run_sizeOf w hinfo, hsz]
          · have h3' : n' ≤ (xs.length : Int) := h3
            simp [execOp, ho, hv, Instr.sliceAt, Instr.slice, run_underlying w hT, Instr.sliceBounds, he', Instr.sliceBound, asIntOf, h2, h3', run_sizeOf w hinfo, hsz]
          · have h1' : n ≤ (c : Int) := by omega
            simp [execOp, ho, hv, Instr.sliceAt, Instr.slice, run_underlying w hT, Instr.sliceBounds, he, Instr.sliceBound, asIntOf, h0, h1', run_sizeOf w hinfo, hsz]
          · have h3' : n' ≤ ((n.toNat : Nat) : Int) := by omega
            have h1' : n ≤ (c : Int) := by omega
            simp only [execOp, ho, hv, Instr.sliceAt, Instr.slice, run_underlying w hT, Instr.sliceBounds, he, he', Instr.sliceBound, asIntOf, h0, h1', h2, h3', Sem.run_bind, Result.andThen_ok, Sem.run_pure, Option.map_none, Option.isSome_none, Bool.false_eq_true, if_false, and_self, if_true, Sem.run_ite, run_sizeOf w hinfo, hsz]
        · exact h.elim
      · exact h.elim
    · exact h.elim
  · rename_i elem t l hh lt ck c hT hX hl hhi hmx
    split at h
    · rename_i it i hm hinfo
      rw [nth?_eq] at hm
      split at h
      · rename_i Kd xs hrow
        obtain ⟨⟨⟨q1, q2⟩, ⟨q3, q4⟩, q5, q6⟩, h⟩ := h
        rw [hX] at hx
        obtain ⟨fp, hf⟩ := hM
        obtain ⟨A, cap, hv, hlen, _⟩ := row_cells' hf hm hrow hx.1
        have hlc := hlen.2
        have hmv : ∃ om, mx = some om ∧ a.eval om = .int ck c := by
          cases mx with
          | none => cases hmx
          | some om =>
            simp only [optEv, Option.some.injEq] at hmx
            have := ev_rep ht om
            rw [hmx] at this
            exact ⟨om, rfl, this⟩
        obtain ⟨om, rfl, hmv⟩ := hmv
        rcases bnd_run ht hhi with ⟨_, he⟩ | ⟨k, n, he, hn⟩
        · cases he
        rcases bnd_run ht hl with ⟨_, he2⟩ | ⟨k2, n2, he2, hn2⟩
        · cases he2
        cases hn; cases hn2
        have q2' : c ≤ (cap : Int) := by omega
        have q4' : hh ≤ ((c.toNat : Nat) : Int) := by omega
        have q6' : l ≤ ((hh.toNat : Nat) : Int) := by omega
        refine OutQ.mk (v := .slice (if c.toNat = l.toNat then A else A.map (fun a => a.add (l.toNat * i.size))) (hh.toNat - l.toNat) (c.toNat - l.toNat)) ?_ h trivial
        simp only [execOp, ho, hv, Instr.sliceAt, Instr.slice, run_underlying w hT, Instr.sliceBounds, he, he2, Option.map_some, hmv, Instr.sliceBound, asIntOf, q1, q2', q3, q4', q5, q6', Sem.run_bind, Result.andThen_ok, Sem.run_pure, Option.isSome_some, if_true, and_self, Sem.run_ite, run_sizeOf w hinfo]
      · exact h.elim
    · exact h.elim
  · exact h.elim

/-! ### conversions -/
def byteK (e : TypeId) : Kind where
  T := UInt8
  d := 0
  sz := 1
  elem := e
  enc b := [.int .u8 b.toNat]
  encA b := [.int false .u8 b.toNat]
  dec := fun _ => none
  pos := by decide
  len := fun _ => rfl
  one := fun _ u hu => by simp at hu; subst hu; rfl
  rep := fun env x vs => ⟨fun ⟨v, vs', h1, h2, h3⟩ => by cases h3; cases h2; exact h1, fun h => ⟨_, _, h, rfl, rfl⟩⟩
  dec_ok := fun _ _ h => by cases h

theorem byteK_cells (e : TypeId) (l : List UInt8) : (byteK e).cells l = l.map fun b => Value.int .u8 b.toNat := by
  unfold Kind.cells byteK
  induction l with
  | nil => rfl
  | cons b l ih => simp only [List.flatMap_cons, List.map_cons, ih]; rfl

def numsOf : List Sc → Option (List Int)
  | [] => some []
  | .int _ .u8 n :: l => match numsOf l with
    | some ns => some (n :: ns)
    | none => none
  | _ => none

def numsRow (Kd : Kind) : List Kd.T → Option (List Int)
  | [] => some []
  | x :: xs => match Kd.encA x, numsRow Kd xs with
    | [.int _ .u8 n], some ns => some (n :: ns)
    | _, _ => none
theorem numsRow_cells {Kd : Kind} : ∀ {xs : List Kd.T} {ns : List Int}, numsRow Kd xs = some ns → Kd.cells xs = ns.map (Value.int .u8)
  | [], ns, h => by simp only [numsRow, Option.some.injEq] at h; subst h; rfl
  | x :: xs, ns, h => by
    simp only [numsRow] at h
    split at h
    · rename_i l n ns' he hns
      cases h
      have h1 := (Kd.rep [] x (Kd.enc x)).2 rfl
      rw [he] at h1
      obtain ⟨v, vs', hv, h2, h3⟩ := h1
      cases h2; cases h3
      have ih := numsRow_cells hns
      unfold Kind.cells at ih ⊢
      rw [List.flatMap_cons, hv, ih]; rfl
    · cases h

theorem numsOf_rep {env : List Value} : ∀ {cs : List Sc} {ns : List Int} {vs : List Value}, numsOf cs = some ns → SRepL env cs vs → vs = ns.map (Value.int .u8)
  | [], ns, vs, h, hr => by simp only [numsOf, Option.some.injEq] at h; subst h; exact hr
  | .int _ .u8 n :: l, ns, vs, h, hr => by
    simp only [numsOf] at h
    split at h
    · rename_i ns' hns
      cases h
      obtain ⟨v, vs', rfl, h1, h2⟩ := hr
      rw [numsOf_rep hns h2]
      cases h1; rfl
    · cases h

def convQ (P : Program) (m : List Item) (src dst : TypeId) (x : AVal) (K : AVal → List Item → Prop) : Prop :=
  match P.underlying src, P.underlying dst, x with
  | some _, some (.int k), .sc (.int l _ n) => K (.sc (.int l k (k.wrap n))) m
  | some _, some .string, .sc (.str s) => K (.sc (.str s)) m
  | some (.slice e), some .string, .sc (.h t) => match P.underlying e, (nth m t .gone) with
    | some (.int .u8), .slc Kd xs => match numsRow Kd xs with
      | some ns => K (.sc (.str (strOfNums ns))) m
      | none => False
    | _, _ => False
  | _, _, _ => False

def convOp (P : Program) (m : List Item) (src dst : TypeId) (x : AVal) (K : AVal → List Item → Prop) : Prop :=
  match P.underlying src, P.underlying dst, x with
  | some _, some (.int k), .sc (.int l _ n) => K (.sc (.int l k (k.wrap n))) m
  | some _, some .string, .sc (.str s) => K (.sc (.str s)) m
  | some .string, some (.slice e), .sc (.str s) => match P.underlying e with
    | some (.int .u8) => Know (s.size ≤ 281474976710656) (snocK m (.rob (byteK e) s.data.toList) fun m' n => K (.sc (.h n)) m') ∧ s.size ≤ 281474976710656
    | _ => False
  | some (.slice e), some .string, .sc (.bsl t off n) => match P.underlying e, nth? m t with
    | some (.int .u8), some (.box _ cells) => match decide (off + n ≤ cells.length), numsOf ((cells.drop off).take n) with
      | true, some ns => K (.sc (.str (strOfNums ns))) m
      | _, _ => False
    | _, _ => False
  | _, _, _ => False

theorem convOp_out {o : Oper} {a : Act} {w : World} {env m} {K} {src dst : TypeId} {x : Operand} {X : AVal} (ho : o.op = .convert src dst x) (h : convOp P m src dst X K) (hx : Rep env X (a.eval x)) (hM : MemH w0 F env m w) : Out P o a w w0 F env K := by
  unfold convOp at h
  split at h
  · rename_i d k l k' n hs hd
    have hx' : a.eval x = .int k' n := hx
    refine Out.value (v := .int k (k.wrap n)) (w' := w) ?_ h (Ext.refl _) rfl hM
    simp only [execOp, ho, hx', Sem.run_bind, convert, run_underlying w hs, run_underlying w hd, Result.andThen_ok, Conv.intToInt, Sem.run_pure]
  · rename_i d s hs hd
    have hx' : a.eval x = .string s := hx
    refine Out.value (v := .string s) (w' := w) ?_ h (Ext.refl _) rfl hM
    simp only [execOp, ho, hx', Sem.run_bind, convert, run_underlying w hs, run_underlying w hd, Result.andThen_ok, Sem.run_pure]
  · rename_i e s hs hd
    split at h
    · rename_i he
      obtain ⟨⟨h⟩, hsz⟩ := h
      replace h := h hsz
      rw [snocK_eq] at h
      have hx' : a.eval x = .string s := hx
      obtain ⟨fp, hf⟩ := hM
      have hrun := run_bytes_of_string (P := P) w src dst e s hs hd he
      have hsize : ∀ O, (w.drew.alloc O).heap = w.heap.push O := fun O => rfl
      refine Out.value (v := .slice (some ⟨w.heap.size, 0, none⟩) s.size (grownCap w s.size 0 e)) (env' := env ++ [.slice (some ⟨w.heap.size, 0, none⟩) s.size (grownCap w s.size 0 e)]) (w' := w.drew.alloc (.cells (bytesRow s (grownCap w s.size 0 e)) e ((bytesRow s (grownCap w s.size 0 e)).size, (bytesRow s (grownCap w s.size 0 e)).size + 1))) ?_ h (Ext.append _ _) ⟨env_last hf.len _, rfl⟩ ?_
      · simp only [execOp, ho, hx', Sem.run_bind, hrun, Result.andThen_ok, Sem.run_pure]
      · refine ⟨_, hf.snoc (w' := w.drew.alloc (.cells (bytesRow s (grownCap w s.size 0 e)) e ((bytesRow s (grownCap w s.size 0 e)).size, (bytesRow s (grownCap w s.size 0 e)).size + 1))) (fun k hk => ?_) rfl rfl rfl (by rw [hsize]; simp) _ _ (fun k => k = w.heap.size) (fun k hk => ⟨by omega, by rw [hsize]; simp; omega⟩) ?_⟩
        · rw [hsize, Array.getElem?_push, if_neg (by omega)]
        · have hsl : List.length (α := (byteK e).T) s.data.toList = s.size := Array.length_toList
          refine ⟨w.heap.size, grownCap w s.size 0 e, (bytesRow s (grownCap w s.size 0 e)).toList, ((bytesRow s (grownCap w s.size 0 e)).size, (bytesRow s (grownCap w s.size 0 e)).size + 1), by rw [hsl], ⟨by rw [hsl]; simp only [maxLen]; omega, by rw [hsl]; exact grownCap_ge w s.size 0 e⟩, by rw [hsize]; simp [byteK], ?_, fun k => Iff.rfl⟩
          rw [byteK_cells]
          simp [bytesRow]
    · exact h.elim
  · rename_i e t off n hs hd
    split at h
    · rename_i T cells he hm
      rw [nth?_eq] at hm
      split at h
      · rename_i ns hle hns
        simp only [decide_eq_true_eq] at hle
        obtain ⟨fp, hf⟩ := hM
        obtain ⟨b, hb, hv⟩ := hx
        obtain ⟨cs, fr, hcb, hrep, _⟩ := box_cells hf hm hb
        have hvals := numsOf_rep hns ((hrep.drop off).take n)
        have hl := hrep.length
        have hnl : ns.length = n := by
          have := congrArg List.length hvals
          simp at this; omega
        refine Out.value (v := .string (strOfNums ns)) (w' := w) ?_ h (Ext.refl _) rfl ⟨fp, hf⟩
        have hrun := run_convert_bytes_arg (P := P) w src e hs he b off n n ns hnl (fun i hi => by
          rw [cell_block hcb]
          have h1 : ((cs.drop off).take n)[i]? = cs[off + i]? := by rw [List.getElem?_take, if_pos hi, List.getElem?_drop]
          rw [← h1, hvals]
          simp [List.getElem?_eq_getElem (show i < ns.length by omega), List.getD_eq_getElem?_getD]) dst hd
        simp only [execOp, ho, hv, Sem.run_bind, hrun, Result.andThen_ok, Sem.run_pure]
      · exact h.elim
    · exact h.elim
  · exact h.elim

theorem convQ_out {o : Oper} {a : Act} {w : World} {env m} {K} {src dst : TypeId} {x : Operand} {X : AVal} (ho : o.op = .convert src dst x) (h : convQ P m src dst X K) (hx : Rep env X (a.eval x)) (hM : MemH w0 F env m w) : OutQ P o a w env m K := by
  unfold convQ at h
  split at h
  · rename_i d k l k' n hs hd
    have hx' : a.eval x = .int k' n := hx
    refine OutQ.mk (v := .int k (k.wrap n)) ?_ h rfl
    simp only [execOp, ho, hx', Sem.run_bind, convert, run_underlying w hs, run_underlying w hd, Result.andThen_ok, Conv.intToInt, Sem.run_pure]
  · rename_i d s hs hd
    have hx' : a.eval x = .string s := hx
    refine OutQ.mk (v := .string s) ?_ h rfl
    simp only [execOp, ho, hx', Sem.run_bind, convert, run_underlying w hs, run_underlying w hd, Result.andThen_ok, Sem.run_pure]
  · rename_i e t hs hd
    split at h
    · rename_i Kd xs he hm
      split at h
      · rename_i ns hns
        obtain ⟨fp, hf⟩ := hM
        have hm' := nth_some' hm
        obtain ⟨A, c, hv, hl, hnil, hcell⟩ := row_cells hf hm' rfl hx.1
        have hcs := numsRow_cells hns
        have hlen : ns.length = xs.length := by
          have h1 := congrArg List.length hcs
          have h2 := Kd.cells_length xs
          have h3 : Kd.sz = 1 ∨ xs = [] := by
            cases xs with
            | nil => exact .inr rfl
            | cons y ys =>
              refine .inl ?_
              simp only [numsRow] at hns
              split at hns
              · rename_i he' _
                have h4 := (Kd.rep [] y (Kd.enc y)).2 rfl
                rw [he'] at h4
                have h5 := h4.length
                rw [Kd.len] at h5; exact h5
              · cases hns
          rcases h3 with h3 | h3
          · rw [h2, h3] at h1; simp at h1; omega
          · subst h3; simp [numsRow] at hns; subst hns; rfl
        refine OutQ.mk (v := .string (strOfNums ns)) ?_ h rfl
        by_cases hne : xs = []
        · subst hne
          have hns0 : ns = [] := List.eq_nil_of_length_eq_zero (by rw [hlen]; rfl)
          subst hns0
          cases A with
          | none =>
            have hrun := run_convert_bytes_nil (P := P) w src e hs he 0 c dst hd
            simp only [execOp, ho, hv, Sem.run_bind, List.length_nil, hrun, Result.andThen_ok, Sem.run_pure]
            rfl
          | some ad =>
            simp only [execOp, ho, hv, Sem.run_bind, convert, run_underlying w hs, run_underlying w hd, run_underlying w he, Result.andThen_ok]
            rfl
        · obtain ⟨b, o', rfl, hc⟩ := hcell hne
          have hrun := run_convert_bytes_arg (P := P) w src e hs he b o' xs.length c ns hlen (fun i hi => by
            refine hc i _ ?_
            rw [hcs]
            simp [List.getElem?_eq_getElem (show i < ns.length by omega), List.getD_eq_getElem?_getD]) dst hd
          simp only [execOp, ho, hv, Sem.run_bind, hrun, Result.andThen_ok, Sem.run_pure]
      · exact h.elim
    · exact h.elim
  · exact h.elim

end Go.AM

namespace Go.AM
open Go Go.MapKept
open Go.ChangeMaps (setBlock heap_setBlock_same heap_setBlock_other)
variable {P : Program} {w0 : World} {F : Nat → Prop}

/-! ### maps: entries by their keys -/
def lookL (M : MKind) (l : List (M.K × M.V)) (k : M.K) : Option M.V := match l with
  | [] => none
  | (a, b) :: l => match M.eqb a k with
    | true => some b
    | false => lookL M l k
def putL (M : MKind) (l : List (M.K × M.V)) (k : M.K) (v : M.V) : List (M.K × M.V) := match l with
  | [] => [(k, v)]
  | (a, b) :: l => match M.eqb a k with
    | true => (a, v) :: l
    | false => (a, b) :: putL M l k v
def delL (M : MKind) (l : List (M.K × M.V)) (k : M.K) : List (M.K × M.V) := match l with
  | [] => []
  | (a, b) :: l => match M.eqb a k with
    | true => l
    | false => (a, b) :: delL M l k

theorem find_spec (M : MKind) (k : M.K) : ∀ (l : List (M.K × M.V)) (es : List MapEntry) (i : Nat), es.map MKind.kv = l.map M.enc →
    (Instr.findNow M.desc (M.ek k) es i = some none ∧ lookL M l k = none ∧ (∀ x ∈ es, x.key ≠ M.ek k) ∧ (∀ v, putL M l k v = l ++ [(k, v)]) ∧ delL M l k = l) ∨
    ∃ j e p, Instr.findNow M.desc (M.ek k) es i = some (some (i + j, e.val)) ∧ es[j]? = some e ∧ l[j]? = some p ∧ p.1 = k ∧ e.key = M.ek k ∧ e.val = M.ev p.2 ∧ lookL M l k = some p.2 ∧ (∀ v, putL M l k v = l.set j (k, v)) ∧ delL M l k = l.eraseIdx j
  | [], [], i, _ => .inl ⟨rfl, rfl, by simp, fun _ => rfl, rfl⟩
  | [], _ :: _, _, h => by simp at h
  | _ :: _, [], _, h => by simp at h
  | (a, b) :: l, e :: es, i, h => by
    simp only [List.map_cons, List.cons.injEq, MKind.kv, MKind.enc, Prod.mk.injEq] at h
    obtain ⟨⟨h1, h2⟩, h3⟩ := h
    obtain ⟨r, hr, hiff⟩ := sameNow_of_keys (M.isk k) (by rw [h1]; exact M.isk a : IsKey M.desc e.key)
    cases hab : M.eqb a k with
    | true =>
      have := (M.eqb_ok a k).1 hab
      subst this
      have : r = true := hiff.2 h1.symm
      subst this
      exact .inr ⟨0, e, (a, b), by simp [Instr.findNow, hr], rfl, rfl, rfl, h1, h2, by simp [lookL, hab], fun v => by simp [putL, hab], by simp [delL, hab]⟩
    | false =>
      have hne : ¬ M.ek k = e.key := by
        intro e'
        rw [h1] at e'
        have := (M.eqb_ok a k).2 (M.inj _ _ e').symm
        rw [hab] at this; cases this
      have : r = false := by
        cases r with
        | false => rfl
        | true => exact (hne (hiff.1 rfl)).elim
      subst this
      rcases find_spec M k l es (i + 1) h3 with ⟨g1, g2, g3, g4, g5⟩ | ⟨j, e', p, g1, g2, g3, g4, g5, g6, g7, g8, g9⟩
      · exact .inl ⟨by simp [Instr.findNow, hr, g1], by simp [lookL, hab, g2], fun x hx => by
          cases hx with
          | head => exact fun e' => hne e'.symm
          | tail _ hx => exact g3 x hx, fun v => by simp [putL, hab, g4 v], by simp [delL, hab, g5]⟩
      · exact .inr ⟨j + 1, e', p, by simp [Instr.findNow, hr, g1]; omega, by simpa using g2, by simpa using g3, g4, g5, g6, by simp [lookL, hab, g7], fun v => by simp [putL, hab, g8 v], by simp [delL, hab, g9]⟩

theorem heap_setB {w : World} {b : Nat} {o o' : Obj} (hb : w.heap[b]? = some o) : (setBlock w b o').heap[b]? = some o' ∧ ∀ k, k ≠ b → (setBlock w b o').heap[k]? = w.heap[k]? := heap_set hb
theorem setBlock_mem {env m w fp} (h : MemF w0 F env m w fp) {t b : Nat} {o o' : Obj} (hb : w.heap[b]? = some o) (hfp : fp t b) (it : Item)
    (hit : ∀ v, env[t]? = some v → ItemH w0 F env (setBlock w b o') v (fp t) it) : MemF w0 F env (m.set t it) (setBlock w b o') fp :=
  h.turn t (fun k hk hn => (heap_setB hb).2 k (fun e => hn (by rw [e]; exact hfp))) rfl rfl rfl (by simp [setBlock]) it hit

theorem run_setObj_m {w : World} {r : Nat} {es : Array MapEntry} {clock : Nat} (o : Obj) (hb : w.heap[r]? = some (.map es clock)) : (setObj r o).run P w = .ok () (setBlock w r o) := by
  simp [setObj, Sem.run, hb, setBlock]

/-! ### a new map -/
def mkMapOp (E : Eng) (m : List Item) (T : TypeId) (K : AVal → List Item → Prop) : Prop := match E.maps T with
  | some M => snocK m (.mp true M []) fun m' n => K (.sc (.h n)) m'
  | none => False
theorem mkMapOp_out {E : Eng} {o : Oper} {a : Act} {w : World} {env m} {K} {T : TypeId} (ho : o.op = .makeMap T none) (h : mkMapOp E m T K) (hM : MemH w0 F env m w) : Out P o a w w0 F env K := by
  unfold mkMapOp at h
  split at h
  · rename_i M hMk
    rw [snocK_eq] at h
    obtain ⟨fp, hf⟩ := hM
    refine Out.value (v := .map (some w.heap.size)) (env' := env ++ [.map (some w.heap.size)]) (w' := w.alloc (.map #[] 0)) ?_ h (Ext.append _ _) ⟨env_last hf.len _, rfl⟩ ?_
    · simp only [execOp, ho, Sem.run_bind, Instr.makeMap, run_newObj_alloc, Result.andThen_ok, Sem.run_pure, Option.map_none]
    · refine ⟨_, hf.snoc (w' := w.alloc (.map #[] 0)) (fun k hk => (heap_alloc w _).2 k hk) rfl rfl rfl (by show _ ≤ (w.heap.push _).size; simp) _ _ (fun k => k = w.heap.size) (fun k hk => ⟨by omega, by show k < (w.heap.push _).size; simp; omega⟩) ?_⟩
      exact .inl ⟨w.heap.size, #[], 0, rfl, (heap_alloc w _).1, ⟨rfl, stamped_empty 0⟩, fun k => Iff.rfl⟩
  · exact h.elim

/-! ### a look at a key -/
def teA : Bool × List Sc → AVal
  | (true, cs) => .agg cs
  | (false, [s]) => .sc s
  | _ => .any
theorem teA_rep {env : List Value} {x : Bool × List Sc} {v : Value} (h : TRep env x v) : Rep env (teA x) v := by
  match x, h with
  | (true, cs), ⟨vs, hv, h⟩ => exact ⟨vs, hv, h⟩
  | (false, [s]), h => exact h
  | (false, []), h => exact h.elim
  | (false, _ :: _ :: _), h => exact h.elim

def lookOp (E : Eng) (m : List Item) (T : TypeId) (x k : AVal) (ok : Bool) (K : AVal → List Item → Prop) : Prop :=
  match x, k with
  | .sc (.h t), .sc ks => match nth? m t with
    | some (.mp nn M l) => match M.decK ks with
      | some key => Need (E.maps T = some M) (match ok with
        | true => K (.tup [M.evA ((lookL M l key).getD M.zero), (false, [.bool (lookL M l key).isSome])]) m
        | false => K (teA (M.evA ((lookL M l key).getD M.zero))) m)
      | none => False
    | _ => False
  | _, _ => False
theorem lookOp_out {E : Eng} (hE : ∀ T M, E.maps T = some M → MapFacts P T M) {o : Oper} {a : Act} {w : World} {env m} {K} {T : TypeId} {x k : Operand} {ok : Bool} {X Y : AVal} (ho : o.op = .lookup T x k ok) (h : lookOp E m T X Y ok K) (hx : Rep env X (a.eval x)) (hk : Rep env Y (a.eval k)) (hM : MemH w0 F env m w) : OutQ P o a w env m K := by
  unfold lookOp at h
  split at h
  · rename_i t ks
    split at h
    · rename_i nn M l hm
      rw [nth?_eq] at hm
      split at h
      · rename_i key hkey
        obtain ⟨hMk, h⟩ := h
        obtain ⟨hT, hkd, i, hi, hz⟩ := hE _ _ hMk
        obtain ⟨fp, hf⟩ := hM
        have hkv := M.decK_ok _ _ hkey _ _ hk
        obtain ⟨hx1, hx2⟩ := hx
        have hrun : (Instr.lookup T (a.eval x) (M.ek key) ok).run P w = .ok (match ok with | true => .tuple #[M.ev ((lookL M l key).getD M.zero), .bool (lookL M l key).isSome] | false => M.ev ((lookL M l key).getD M.zero)) w := by
          rcases hf.item t _ _ hm hx1 with ⟨b, es, clock, hv, hb, ⟨hl, hs⟩, hfp⟩ | ⟨_, hv, rfl, _⟩
          · rcases find_spec M key l es.toList 0 hl with ⟨g1, g2, _⟩ | ⟨j, e, p, g1, _, _, _, _, g6, g7, _⟩
            · simp only [Instr.lookup, hv, Sem.run_bind, run_underlying w hT, Result.andThen_ok, MapKept.run_getObj_map hb, Sem.run_pure, run_checkKey hkd (M.isk key), run_findKey hkd g1, run_zeroValue w hi hz, g2, Option.getD_none, Option.isSome_none]
              cases ok <;> rfl
            · simp only [Instr.lookup, hv, Sem.run_bind, run_underlying w hT, Result.andThen_ok, MapKept.run_getObj_map hb, Sem.run_pure, run_checkKey hkd (M.isk key), run_findKey hkd g1, g6, g7, Option.getD_some, Option.isSome_some]
              cases ok <;> rfl
          · have g1 : Instr.findNow M.desc (M.ek key) (#[] : Array MapEntry).toList 0 = some none := rfl
            simp only [Instr.lookup, hv, Sem.run_bind, run_underlying w hT, Result.andThen_ok, Sem.run_pure, run_checkKey hkd (M.isk key), run_findKey hkd g1, run_zeroValue w hi hz, lookL, Option.getD_none, Option.isSome_none]
            cases ok <;> rfl
        cases ok with
        | true =>
          refine OutQ.mk ?_ h ⟨_, rfl, _, _, rfl, M.repV env _, _, _, rfl, rfl, rfl⟩
          simp only [execOp, ho, hkv, Sem.run_bind, hrun, Result.andThen_ok, Sem.run_pure]
        | false =>
          refine OutQ.mk ?_ h (teA_rep (M.repV env _))
          simp only [execOp, ho, hkv, Sem.run_bind, hrun, Result.andThen_ok, Sem.run_pure]
      · exact h.elim
    · exact h.elim
  · exact h.elim

/-! ### a key set -/
def updOp (E : Eng) (m : List Item) (T : TypeId) (x k v : AVal) (K : AVal → List Item → Prop) : Prop :=
  match x, k with
  | .sc (.h t), .sc ks => match nth? m t with
    | some (.mp true M l) => match M.decK ks, M.decV v with
      | some key, some y => Need (E.maps T = some M) (setK m t (.mp true M (putL M l key y)) fun m' => K (.sc .undef) m')
      | _, _ => False
    | _ => False
  | _, _ => False
theorem map_erase {α β : Type _} {f : α → β} : ∀ (l : List α) (i : Nat), (l.eraseIdx i).map f = (l.map f).eraseIdx i
  | [], _ => rfl
  | _ :: _, 0 => rfl
  | _ :: l, i + 1 => by simp [map_erase l i]
theorem map_set_ext {α β : Type _} {f : α → β} {l : List α} {j : Nat} {x : α} : (l.set j x).map f = (l.map f).set j (f x) := by simp
theorem updOp_out {E : Eng} (hE : ∀ T M, E.maps T = some M → MapFacts P T M) {o : Oper} {a : Act} {w : World} {env m} {K} {T : TypeId} {x k v : Operand} {X Y Z : AVal} (ho : o.op = .mapUpdate T x k v ∨ o.op = .insert T x k v) (h : updOp E m T X Y Z K) (hx : Rep env X (a.eval x)) (hk : Rep env Y (a.eval k)) (hv : Rep env Z (a.eval v)) (hM : MemH w0 F env m w) : Out P o a w w0 F env K := by
  unfold updOp at h
  split at h
  · rename_i t ks
    split at h
    · rename_i M l hm
      rw [nth?_eq] at hm
      split at h
      · rename_i key y hkey hy
        obtain ⟨hMk, h⟩ := h
        rw [setK_eq] at h
        obtain ⟨hT, hkd, i, hi, hz⟩ := hE _ _ hMk
        obtain ⟨fp, hf⟩ := hM
        have hkv := M.decK_ok _ _ hkey _ _ hk
        have hvv := M.decV_ok _ _ hy _ _ hv
        obtain ⟨hx1, hx2⟩ := hx
        rcases hf.item t _ _ hm hx1 with ⟨b, es, clock, hxv, hb, ⟨hl, hs⟩, hfp⟩ | ⟨hf', _⟩
        · have key2 : ∃ es' clock', (Instr.mapUpdate T (.map (some b)) (M.ek key) (M.ev y)).run P w = .ok () (setBlock w b (.map es' clock')) ∧ MapIs M (putL M l key y) es' clock' := by
            rcases find_spec M key l es.toList 0 hl with ⟨g1, g2, g3, g4, _⟩ | ⟨j, e, p, g1, g2, g3, g4, g5, g6, g7, g8, _⟩
            · refine ⟨es.push { key := M.ek key, val := M.ev y, born := clock }, clock + 1, ?_, ?_, stamped_push hs g3⟩
              · simp [Instr.mapUpdate, run_underlying w hT, MapKept.run_getObj_map hb, run_checkKey hkd (M.isk key), run_findKey hkd g1, run_setObj_m _ hb, Result.andThen]
              · rw [g4]; simp [hl, MKind.kv, MKind.enc]
            · have hj : es[j]? = some e := by simpa using g2
              refine ⟨es.modify j fun e => { e with key := M.ek key, val := M.ev y }, clock, ?_, ?_, stamped_modify hs _ _ (fun _ _ => rfl) (fun e' _ he' => by rw [hj] at he'; cases he'; exact g5.symm)⟩
              · simp [Instr.mapUpdate, run_underlying w hT, MapKept.run_getObj_map hb, run_checkKey hkd (M.isk key), run_findKey hkd g1, hj, g5, run_keyThatStays (M.isk key), run_setObj_m _ hb, Result.andThen]
              · rw [g8, map_set_ext, ← hl]
                apply List.ext_getElem?
                intro n
                simp only [List.getElem?_map, Array.getElem?_toList, Array.getElem?_modify, List.getElem?_set, List.length_map, Array.length_toList]
                by_cases hn : j = n
                · subst hn
                  have hlt := (Array.getElem?_eq_some_iff.1 hj).1
                  simp [hj, hlt, MKind.kv, MKind.enc]
                · simp [hn]
          obtain ⟨es', clock', hrun, hmi⟩ := key2
          refine .inl ⟨undef, setBlock w b (.map es' clock'), .sc .undef, _, env, .inr ⟨?_, rfl⟩, h, Ext.refl _, rfl, _, setBlock_mem hf hb ((hfp b).2 rfl) _ fun u hu => ?_⟩
          · rcases ho with ho | ho <;> simp only [execOp, ho, hkv, hvv, hxv, Sem.run_bind, hrun, Result.andThen_ok, Sem.run_pure]
          · rw [hx1] at hu; cases hu
            exact .inl ⟨b, es', clock', hxv, (heap_setB hb).1, hmi, hfp⟩
        · cases hf'
      · exact h.elim
    · exact h.elim
  · exact h.elim

/-! ### a key taken out -/
def delOp (E : Eng) (m : List Item) (T : TypeId) (x k : AVal) (K : AVal → List Item → Prop) : Prop :=
  match x, k with
  | .sc (.h t), .sc ks => match nth? m t with
    | some (.mp true M l) => match M.decK ks with
      | some key => Need (E.maps T = some M) (setK m t (.mp true M (delL M l key)) fun m' => K (.tup []) m')
      | _ => False
    | _ => False
  | _, _ => False
theorem delOp_out {E : Eng} (hE : ∀ T M, E.maps T = some M → MapFacts P T M) {o : Oper} {a : Act} {w : World} {env m} {K} {T T2 : TypeId} {x k : Operand} {X Y : AVal} (ho : o.op = .call { callee := .builtin .delete, args := #[x, k], argTypes := #[T, T2] }) (h : delOp E m T X Y K) (hx : Rep env X (a.eval x)) (hk : Rep env Y (a.eval k)) (hM : MemH w0 F env m w) : Out P o a w w0 F env K := by
  unfold delOp at h
  split at h
  · rename_i t ks
    split at h
    · rename_i M l hm
      rw [nth?_eq] at hm
      split at h
      · rename_i key hkey
        obtain ⟨hMk, h⟩ := h
        rw [setK_eq] at h
        obtain ⟨hT, hkd, i, hi, hz⟩ := hE _ _ hMk
        obtain ⟨fp, hf⟩ := hM
        have hkv := M.decK_ok _ _ hkey _ _ hk
        obtain ⟨hx1, hx2⟩ := hx
        rcases hf.item t _ _ hm hx1 with ⟨b, es, clock, hxv, hb, ⟨hl, hs⟩, hfp⟩ | ⟨hf', _⟩
        · have key2 : ∃ es' ty, (Builtin.delete_ #[T, T2] ty #[.map (some b), M.ek key]).run P w = .ok (.tuple #[]) (setBlock w b (.map es' clock)) ∧ MapIs M (delL M l key) es' clock ∧ ty = o.type := by
            rcases find_spec M key l es.toList 0 hl with ⟨g1, g2, g3, _, g4⟩ | ⟨j, e, p, g1, g2, g3, g4, g5, g6, g7, _, g8⟩
            · refine ⟨es, o.type, ?_, ⟨by rw [g4]; exact hl, hs⟩, rfl⟩
              simp [Builtin.delete_, run_underlying w hT, MapKept.run_getObj_map hb, run_checkKey hkd (M.isk key), run_findKey hkd g1, run_setObj_m _ hb, Result.andThen]
            · have hj : es[j]? = some e := by simpa using g2
              have hlt := (Array.getElem?_eq_some_iff.1 hj).1
              refine ⟨es.eraseIdxIfInBounds j, o.type, ?_, ⟨?_, stamped_erase hs _⟩, rfl⟩
              · simp [Builtin.delete_, run_underlying w hT, MapKept.run_getObj_map hb, run_checkKey hkd (M.isk key), run_findKey hkd g1, run_setObj_m _ hb, Result.andThen]
              · rw [g8]
                unfold Array.eraseIdxIfInBounds
                rw [dif_pos hlt, Array.toList_eraseIdx]
                rw [map_erase, map_erase, hl]
          obtain ⟨es', ty, hrun, hmi, rfl⟩ := key2
          refine Out.value (v := .tuple #[]) (w' := setBlock w b (.map es' clock)) ?_ h (Ext.refl _) ⟨_, rfl, rfl⟩ ⟨_, setBlock_mem hf hb ((hfp b).2 rfl) _ fun u hu => ?_⟩
          · simp only [execOp, ho, Sem.run_bind, resolve, invoke, builtin, Sem.run_pure, Result.andThen_ok, List.map_toArray, List.map_cons, List.map_nil, hkv, hxv, hrun]
          · rw [hx1] at hu; cases hu
            exact .inl ⟨b, es', clock, hxv, (heap_setB hb).1, hmi, hfp⟩
        · cases hf'
      · exact h.elim
    · exact h.elim
  · exact h.elim

/-! ### the number of entries -/
def lenMap (m : List Item) (x : AVal) (K : AVal → List Item → Prop) : Prop := match x with
  | .sc (.h t) => match nth? m t with
    | some (.mp nn M l) => K (.sc (.int false .i64 l.length)) m
    | _ => False
  | .sc (.val (.map none)) => K (.sc (.int true .i64 0)) m
  | _ => False
theorem lenMap_out {o : Oper} {a : Act} {w : World} {env m} {K} {T kt vt : TypeId} {x : Operand} {X : AVal} (ho : o.op = .call { callee := .builtin .len, args := #[x], argTypes := #[T] }) (hT : P.underlying T = some (.map kt vt)) (h : lenMap m X K) (hx : Rep env X (a.eval x)) (hM : MemH w0 F env m w) : OutQ P o a w env m K := by
  unfold lenMap at h
  split at h
  · rename_i t
    split at h
    · rename_i nn M l hm
      rw [nth?_eq] at hm
      obtain ⟨fp, hf⟩ := hM
      obtain ⟨hx1, hx2⟩ := hx
      refine OutQ.mk (v := .int .i64 l.length) ?_ h rfl
      rcases hf.item t _ _ hm hx1 with ⟨b, es, clock, hxv, hb, ⟨hl, hs⟩, hfp⟩ | ⟨_, hxv, rfl, _⟩
      · have : es.size = l.length := by
          have := congrArg List.length hl
          simpa using this
        simp [execOp, ho, resolve, invoke, builtin, Builtin.len_, hxv, run_underlying w hT, MapKept.run_getObj_map hb, goInt, this]
      · simp [execOp, ho, resolve, invoke, builtin, Builtin.len_, hxv, run_underlying w hT, goInt]
    · exact h.elim
  · have hx' : a.eval x = .map none := hx
    refine OutQ.mk (v := .int .i64 0) ?_ h rfl
    simp [execOp, ho, resolve, invoke, builtin, Builtin.len_, hx', run_underlying w hT, goInt]
  · exact h.elim

/-! ### the loop over a map -/
def rngOp (E : Eng) (m : List Item) (T : TypeId) (x : AVal) (K : AVal → List Item → Prop) : Prop :=
  match x with
  | .sc (.h t) => match nth? m t with
    | some (.mp nn M l) => Need (E.maps T = some M) (setK m t .gone fun m1 => snocK m1 (.itm M l none) fun m2 n => K (.sc (.h n)) m2)
    | _ => False
  | .sc (.val (.map none)) => match E.maps T with
    | some M => snocK m (.itm M [] none) fun m2 n => K (.sc (.h n)) m2
    | none => False
  | _ => False
theorem rngOp_out {E : Eng} (hE : ∀ T M, E.maps T = some M → MapFacts P T M) {o : Oper} {a : Act} {w : World} {env m} {K} {T : TypeId} {x : Operand} {X : AVal} (ho : o.op = .range T x) (h : rngOp E m T X K) (hx : Rep env X (a.eval x)) (hM : MemH w0 F env m w) : Out P o a w w0 F env K := by
  unfold rngOp at h
  obtain ⟨fp, hf⟩ := hM
  split at h
  · rename_i t
    split at h
    · rename_i nn M l hm
      rw [nth?_eq] at hm
      obtain ⟨hMk, h⟩ := h
      simp only [setK_eq, snocK_eq] at h
      obtain ⟨hT, _⟩ := hE _ _ hMk
      obtain ⟨hx1, hx2⟩ := hx
      have hml : (m.set t Item.gone).length = m.length := by simp
      rcases hf.item t _ _ hm hx1 with ⟨b, es, clock, hxv, hb, ⟨hl, hs⟩, hfp⟩ | ⟨_, hxv, rfl, hfp⟩
      · have hlt : b < w.heap.size := (hf.within t b ((hfp b).2 rfl)).2
        refine Out.value (v := .pointer (some ⟨w.heap.size, 0, none⟩)) (env' := env ++ [.pointer (some ⟨w.heap.size, 0, none⟩)]) (w' := w.alloc (.mapIter (some b) clock #[] clock)) ?_ h (Ext.append _ _) ⟨by rw [hml]; exact env_last hf.len _, rfl⟩ ?_
        · simp only [execOp, ho, hxv, Sem.run_bind, Instr.range, run_underlying w hT, MapKept.run_getObj_map hb, run_newObj_alloc, Result.andThen_ok, Sem.run_pure]
        · refine append_move hf t (w' := w.alloc (.mapIter (some b) clock #[] clock)) (fun k hk _ => (heap_alloc w _).2 k hk) rfl rfl rfl (by show _ ≤ (w.heap.push _).size; simp) _ _ (fun k => k = w.heap.size ∨ k = b) (fun k hk => ?_) ?_
          · rcases hk with rfl | rfl
            · exact ⟨.inr (Nat.le_refl _), by show _ < (w.heap.push _).size; simp⟩
            · exact ⟨.inl ((hfp _).2 rfl), by show _ < (w.heap.push _).size; simp; omega⟩
          · refine ⟨w.heap.size, rfl, .inl ⟨b, #[], es, clock, (heap_alloc w _).1, ?_, ?_, hs, by omega, (fun c hc => by cases hc), fun k => Iff.rfl⟩⟩
            · rw [(heap_alloc w _).2 b hlt]; exact hb
            · have : leftOf es #[] = es := by simp [leftOf]
              rw [this]; exact hl
      · refine Out.value (v := .pointer (some ⟨w.heap.size, 0, none⟩)) (env' := env ++ [.pointer (some ⟨w.heap.size, 0, none⟩)]) (w' := w.alloc (.mapIter none 0 #[] 0)) ?_ h (Ext.append _ _) ⟨by rw [hml]; exact env_last hf.len _, rfl⟩ ?_
        · simp only [execOp, ho, hxv, Sem.run_bind, Instr.range, run_underlying w hT, run_newObj_alloc, Result.andThen_ok, Sem.run_pure]
        · refine append_move hf t (w' := w.alloc (.mapIter none 0 #[] 0)) (fun k hk _ => (heap_alloc w _).2 k hk) rfl rfl rfl (by show _ ≤ (w.heap.push _).size; simp) _ _ (fun k => k = w.heap.size) (fun k hk => ?_) ?_
          · subst hk
            exact ⟨.inr (Nat.le_refl _), by show _ < (w.heap.push _).size; simp⟩
          · exact ⟨w.heap.size, rfl, .inr ⟨(heap_alloc w _).1, rfl, rfl, fun k => Iff.rfl⟩⟩
    · exact h.elim
  · split at h
    · rename_i M hMk
      rw [snocK_eq] at h
      obtain ⟨hT, _⟩ := hE _ _ hMk
      have hxv : a.eval x = .map none := hx
      refine Out.value (v := .pointer (some ⟨w.heap.size, 0, none⟩)) (env' := env ++ [.pointer (some ⟨w.heap.size, 0, none⟩)]) (w' := w.alloc (.mapIter none 0 #[] 0)) ?_ h (Ext.append _ _) ⟨env_last hf.len _, rfl⟩ ?_
      · simp only [execOp, ho, hxv, Sem.run_bind, Instr.range, run_underlying w hT, run_newObj_alloc, Result.andThen_ok, Sem.run_pure]
      · refine ⟨_, hf.snoc (w' := w.alloc (.mapIter none 0 #[] 0)) (fun k hk => (heap_alloc w _).2 k hk) rfl rfl rfl (by show _ ≤ (w.heap.push _).size; simp) _ _ (fun k => k = w.heap.size) (fun k hk => ⟨by omega, by show k < (w.heap.push _).size; simp; omega⟩) ?_⟩
        exact ⟨w.heap.size, rfl, .inr ⟨(heap_alloc w _).1, rfl, rfl, fun k => Iff.rfl⟩⟩
    · exact h.elim
  · exact h.elim

inductive Pick {α : Type _} (left : List α) (A : Prop) (B : Nat → α → Prop) : Prop where
  | mk (over : left = [] → A) (step : ∀ i x, left[i]? = some x → B i x)

def nextOp (m : List Item) (x : AVal) (K : AVal → List Item → Prop) : Prop :=
  match x with
  | .sc (.h t) => match nth? m t with
    | some (.itm M left cur) => Pick left (K (.tup [(false, [.lb false])]) m) fun i y => setK m t (.itm M (left.eraseIdx i) (some y)) fun m' => K (.tup [(false, [.lb true]), (false, [M.ekA y.1]), M.evA y.2]) m'
    | _ => False
  | _ => False

theorem nodup_filter_erase : ∀ (L : List MapEntry) (i : Nat) (e : MapEntry), (L.map (·.born)).Nodup → L[i]? = some e → L.filter (fun x => !(x.born == e.born)) = L.eraseIdx i
  | [], _, _, _, h => by simp at h
  | x :: L, 0, e, hn, h => by
    simp at h; subst h
    simp only [List.map_cons, List.nodup_cons, List.mem_map, not_exists, not_and] at hn
    simp only [List.filter_cons, beq_self_eq_true, Bool.not_true, Bool.false_eq_true, if_false, List.eraseIdx_zero, List.tail_cons]
    rw [List.filter_eq_self]
    intro y hy
    have := hn.1 y hy
    simp [this]
  | x :: L, i + 1, e, hn, h => by
    simp only [List.map_cons, List.nodup_cons, List.mem_map, not_exists, not_and] at hn
    have h' : L[i]? = some e := by simpa using h
    have hne : x.born ≠ e.born := fun q => hn.1 e (List.mem_of_getElem? h') q.symm
    rw [List.filter_cons, if_pos (by simpa using hne), nodup_filter_erase L i e hn.2 h', List.eraseIdx_cons_succ]

theorem nextOp_out {o : Oper} {a : Act} {w : World} {env m} {K} {x : Operand} {X : AVal} (ho : o.op = .next x false) (h : nextOp m X K) (hx : Rep env X (a.eval x)) (hM : MemH w0 F env m w) : Out P o a w w0 F env K := by
  unfold nextOp at h
  obtain ⟨fp, hf⟩ := hM
  split at h
  · rename_i t
    split at h
    · rename_i M left cur hm
      rw [nth?_eq] at hm
      obtain ⟨hover, hstep⟩ := h
      obtain ⟨hx1, hx2⟩ := hx
      obtain ⟨r, hxv, hh⟩ := hf.item t _ _ hm hx1
      rcases hh with ⟨b, seen, es, clock, hr, hb, hl, hs, hne, hcur, hfp⟩ | ⟨hr, rfl, rfl, hfp⟩
      · rcases run_next_at (P := P) w o.type r b clock clock seen es clock hr hb (fun y hy => hs.1 y hy) (Nat.le_refl _) with ⟨h0, hrun⟩ | ⟨e, he, w1, hw1, hrun⟩
        · have hnil : left = [] := by
            have := congrArg List.length hl
            simp only [List.length_map, Array.length_toList, h0] at this
            exact List.eq_nil_of_length_eq_zero this.symm
          refine Out.value (v := .tuple #[.bool false]) (w' := w) ?_ (hover hnil) (Ext.refl _) ⟨_, rfl, _, _, rfl, rfl, rfl⟩ ⟨fp, hf⟩
          simp only [execOp, ho, hxv, Sem.run_bind, hrun, Result.andThen_ok, Sem.run_pure]
        · obtain ⟨i, hi⟩ := List.mem_iff_getElem?.1 he
          have hy : ∃ y, left[i]? = some y ∧ MKind.kv e = M.enc y := by
            have := congrArg (·[i]?) hl
            simp only [List.getElem?_map, hi, Option.map_some] at this
            cases hy : left[i]? with
            | none => rw [hy] at this; cases this
            | some y => rw [hy] at this; exact ⟨y, rfl, by simpa using this⟩
          obtain ⟨y, hy, hey⟩ := hy
          have h := hstep i y hy
          rw [setK_eq] at h
          have hkv : e.key = M.ek y.1 ∧ e.val = M.ev y.2 := by simpa [MKind.kv, MKind.enc] using hey
          have hwh : w1.heap = w.heap ∧ w1.os = w.os ∧ w1.tape = w.tape ∧ w1.output = w.output := by rcases hw1 with rfl | rfl <;> exact ⟨rfl, rfl, rfl, rfl⟩
          have hf1 : MemF w0 F env m w1 fp := hf.same hwh.1 hwh.2.1 hwh.2.2.1 hwh.2.2.2
          have hr1 : w1.heap[r]? = some (.mapIter (some b) clock seen clock) := by rw [hwh.1]; exact hr
          refine Out.value (v := .tuple #[.bool true, e.key, e.val]) (w' := setBlock w1 r (.mapIter (some b) clock (seen.push e.born) clock)) ?_ h (Ext.refl _) ⟨_, rfl, _, _, rfl, rfl, _, _, rfl, ?_, _, _, rfl, ?_, rfl⟩ ⟨fp, setBlock_mem hf1 hr1 ((hfp r).2 (.inl rfl)) _ fun u hu => ?_⟩
          · simp only [execOp, ho, hxv, Sem.run_bind, hrun, Result.andThen_ok, Sem.run_pure]
          · rw [hkv.1]; exact M.repK env _
          · rw [hkv.2]; exact M.repV env _
          · rw [hx1] at hu; cases hu
            refine ⟨r, hxv, .inl ⟨b, seen.push e.born, es, clock, (heap_setB hr1).1, ?_, ?_, hs, hne, ?_, hfp⟩⟩
            · rw [(heap_setB hr1).2 b (fun q => hne q.symm), hwh.1]; exact hb
            · have hn : ((leftOf es seen).toList.map (·.born)).Nodup := by
                have hsub : (leftOf es seen).toList.Sublist es.toList := by
                  unfold leftOf; rw [Array.toList_filter]; exact List.filter_sublist
                exact (hsub.map _).nodup hs.2.1
              have hle : (leftOf es (seen.push e.born)).toList = (leftOf es seen).toList.filter (fun x => !(x.born == e.born)) := by
                unfold leftOf
                rw [Array.toList_filter, Array.toList_filter, List.filter_filter]
                apply List.filter_congr
                intro x _
                simp only [Array.contains_push, Bool.not_or]
                rw [Bool.and_comm]
              rw [hle, nodup_filter_erase _ i e hn hi, map_erase, hl, map_erase]
            · intro c hc
              cases hc
              exact ⟨e, seen, rfl, (mem_left he).1, hey⟩
      · refine Out.value (v := .tuple #[.bool false]) (w' := w) ?_ (hover rfl) (Ext.refl _) ⟨_, rfl, _, _, rfl, rfl, rfl⟩ ⟨fp, hf⟩
        simp [execOp, ho, hxv, Instr.next, getObj, Sem.run, hr, Result.andThen]
    · exact h.elim
  · exact h.elim

def entOp (m : List Item) (x : AVal) (K : AVal → List Item → Prop) : Prop :=
  match x with
  | .sc (.h t) => match nth? m t with
    | some (.itm M left (some c)) => K (.tup [(false, [M.ekA c.1]), M.evA c.2]) m
    | _ => False
  | _ => False
theorem entOp_out {o : Oper} {a : Act} {w : World} {env m} {K} {x : Operand} {X : AVal} (ho : o.op = .entry x) (h : entOp m X K) (hx : Rep env X (a.eval x)) (hM : MemH w0 F env m w) : OutQ P o a w env m K := by
  unfold entOp at h
  obtain ⟨fp, hf⟩ := hM
  split at h
  · rename_i t
    split at h
    · rename_i M left c hm
      rw [nth?_eq] at hm
      obtain ⟨hx1, hx2⟩ := hx
      obtain ⟨r, hxv, hh⟩ := hf.item t _ _ hm hx1
      rcases hh with ⟨b, seen, es, clock, hr, hb, hl, hs, hne, hcur, hfp⟩ | ⟨_, _, hc, _⟩
      · obtain ⟨e, seen', rfl, he, hec⟩ := hcur c rfl
        have hkv : e.key = M.ek c.1 ∧ e.val = M.ev c.2 := by simpa [MKind.kv, MKind.enc] using hec
        have hrun := run_entry_at (P := P) w r b clock seen' es clock e hr hb he hs.2.1
        refine OutQ.mk (v := .tuple #[e.key, e.val]) ?_ h ⟨_, rfl, _, _, rfl, ?_, _, _, rfl, ?_, rfl⟩
        · simp only [execOp, ho, hxv, Sem.run_bind, hrun, Result.andThen_ok, Sem.run_pure]
        · rw [hkv.1]; exact M.repK env _
        · rw [hkv.2]; exact M.repV env _
      · cases hc
    · exact h.elim
  · exact h.elim

end Go.AM

namespace Go.AM
open Go
variable {P : Program} {w0 : World} {F : Nat → Prop}

/-! ### compared with nil -/
inductive NilB {α : Type _} (xs : List α) (B : Bool → Prop) : Prop where
  | mk (h : ∀ b, (b = true → xs = []) → B b)
def eqOp : BinOp → Option Bool
  | .eql => some true
  | .neq => some false
  | _ => none
def nilKind (P : Program) (T : TypeId) (y : AVal) : Nat := match y with
  | .sc (.val (.slice none 0 0)) => match P.underlying T with
    | some (.slice _) => 1
    | _ => 0
  | .sc (.val (.pointer none)) => match P.underlying T with
    | some (.pointer _) => 2
    | _ => 0
  | _ => 0
def flipB (s r : Bool) : Bool := match s with
  | true => r
  | false => !r
def nilCmp1 (m : List Item) (s : Bool) (x : AVal) (K : AVal → List Item → Prop) : Prop := match x with
  | .sc (.val (.slice none 0 0)) => K (.sc (.lb s)) m
  | .sc (.h t) => match nth? m t with
    | some it => match it.row with
      | some ⟨_, xs⟩ => NilB xs fun b => K (.sc (.bool (flipB s b))) m
      | none => False
    | none => False
  | _ => False
def nilCmp2 (m : List Item) (s : Bool) (x : AVal) (K : AVal → List Item → Prop) : Prop := match x with
  | .sc (.val (.pointer none)) => K (.sc (.lb s)) m
  | .sc (.fld t off) => K (.sc (.lb (!s))) m
  | _ => False
theorem nilKind_one {T : TypeId} {y : AVal} (h : nilKind P T y = 1) : y = .sc (.val (.slice none 0 0)) ∧ ∃ e, P.underlying T = some (.slice e) := by
  unfold nilKind at h
  split at h
  · split at h
    · rename_i e he; exact ⟨rfl, e, he⟩
    · cases h
  · split at h <;> cases h
  · cases h
theorem nilKind_two {T : TypeId} {y : AVal} (h : nilKind P T y = 2) : y = .sc (.val (.pointer none)) ∧ ∃ e, P.underlying T = some (.pointer e) := by
  unfold nilKind at h
  split at h
  · split at h <;> cases h
  · split at h
    · rename_i e he; exact ⟨rfl, e, he⟩
    · cases h
  · cases h
def eqSem (s : Bool) (T : TypeId) (a b : Value) : Sem Value := do pure (.bool (flipB s (← Op.equal T a b)))
theorem binOp_eqSem {op : BinOp} {s : Bool} (hs : eqOp op = some s) (T : TypeId) (u v : Value) (h1 : ∀ k n, u ≠ .int k n) (h2 : ∀ k n, u ≠ .float k n) (h3 : ∀ k n q, u ≠ .complex k n q) (h4 : ∀ b, u ≠ .string b) : binOp op T u v = eqSem s T u v := by
  cases op <;> cases hs <;> cases u <;> first | rfl | exact absurd rfl (h1 _ _) | exact absurd rfl (h2 _ _) | exact absurd rfl (h3 _ _ _) | exact absurd rfl (h4 _)
theorem eqop_run {o : Oper} {a : Act} {w : World} {op : BinOp} {s : Bool} {T yT : TypeId} {x y : Operand} (ho : o.op = .binOp op T x y yT) (hs : eqOp op = some s) (r : Bool) (h1 : a.eval x ≠ .nilIface) (h2 : ∀ c, a.eval x ≠ .agg c)
    (hb : binOp op T (a.eval x) (a.eval y) = eqSem s T (a.eval x) (a.eval y)) (hr : (Op.equal T (a.eval x) (a.eval y)).run P w = .ok r w) : (execOp a.eval o).run P w = .ok (.value (.bool (flipB s r))) w := by
  simp only [execOp, ho, Sem.run_bind, eqGuard_plain w op T x y _ _ h1 h2, Result.andThen_ok, hb, eqSem, hr, Sem.run_pure]
theorem equal_slice_nil {T e : TypeId} (hT : P.underlying T = some (.slice e)) (w : World) (A : Option Addr) (n c : Nat) (hA : A = none → n = 0 ∧ c = 0) : (Op.equal T (.slice A n c) (.slice none 0 0)).run P w = .ok A.isNone w := by
  show (Op.equalIn (9999 + 1) T (.slice A n c) (.slice none 0 0)).run P w = _
  generalize 9999 = d
  unfold Op.equalIn
  rw [Sem.run_bind, run_underlying w hT, Result.andThen_ok]
  cases A with
  | none => obtain ⟨rfl, rfl⟩ := hA rfl; rfl
  | some a => rfl
theorem equal_pointer_nil {T e : TypeId} (hT : P.underlying T = some (.pointer e)) (w : World) (A : Option Addr) : (Op.equal T (.pointer A) (.pointer none)).run P w = .ok A.isNone w := by
  show (Op.equalIn (9999 + 1) T (.pointer A) (.pointer none)).run P w = _
  generalize 9999 = d
  unfold Op.equalIn
  rw [Sem.run_bind, run_underlying w hT, Result.andThen_ok]
  cases A with
  | none => rfl
  | some a => rfl
theorem nilCmp1_out {o : Oper} {a : Act} {w : World} {env m} {K} {op : BinOp} {s : Bool} {T yT : TypeId} {x y : Operand} {X Y : AVal} (ho : o.op = .binOp op T x y yT) (hs : eqOp op = some s) (hk : nilKind P T Y = 1) (h : nilCmp1 m s X K) (hx : Rep env X (a.eval x)) (hy : Rep env Y (a.eval y)) (hM : MemH w0 F env m w) : OutQ P o a w env m K := by
  obtain ⟨rfl, e, hT⟩ := nilKind_one hk
  have hy' : a.eval y = .slice none 0 0 := hy
  unfold nilCmp1 at h
  split at h
  · have hx' : a.eval x = .slice none 0 0 := hx
    refine OutQ.mk (eqop_run ho hs true (by rw [hx']; intro h; cases h) (by rw [hx']; intro c h; cases h) (binOp_eqSem hs T _ _ (by rw [hx']; intro _ _ h; cases h) (by rw [hx']; intro _ _ h; cases h) (by rw [hx']; intro _ _ _ h; cases h) (by rw [hx']; intro _ h; cases h)) (by
      rw [hx', hy']; exact equal_slice_nil hT w none 0 0 (fun _ => ⟨rfl, rfl⟩))) h ?_
    cases s <;> rfl
  · rename_i t
    split at h
    · rename_i it hm
      rw [nth?_eq] at hm
      split at h
      · rename_i Kd xs hrow
        obtain ⟨fp, hf⟩ := hM
        obtain ⟨A, c, hv, hl, hnil, _⟩ := row_cells hf hm hrow hx.1
        obtain ⟨h⟩ := h
        refine OutQ.mk (eqop_run ho hs A.isNone (by rw [hv]; intro h; cases h) (by rw [hv]; intro c h; cases h) (binOp_eqSem hs T _ _ (by rw [hv]; intro _ _ h; cases h) (by rw [hv]; intro _ _ h; cases h) (by rw [hv]; intro _ _ _ h; cases h) (by rw [hv]; intro _ h; cases h)) (by
          rw [hv, hy']; exact equal_slice_nil hT w A _ _ (fun hA => ⟨by rw [(hnil hA).1]; rfl, (hnil hA).2⟩))) (h A.isNone (fun hA => (hnil (by simpa using hA)).1)) rfl
      · exact h.elim
    · exact h.elim
  · exact h.elim
theorem nilCmp2_out {o : Oper} {a : Act} {w : World} {env m} {K} {op : BinOp} {s : Bool} {T yT : TypeId} {x y : Operand} {X Y : AVal} (ho : o.op = .binOp op T x y yT) (hs : eqOp op = some s) (hk : nilKind P T Y = 2) (h : nilCmp2 m s X K) (hx : Rep env X (a.eval x)) (hy : Rep env Y (a.eval y)) (hM : MemH w0 F env m w) : OutQ P o a w env m K := by
  obtain ⟨rfl, e, hT⟩ := nilKind_two hk
  have hy' : a.eval y = .pointer none := hy
  unfold nilCmp2 at h
  split at h
  · have hx' : a.eval x = .pointer none := hx
    refine OutQ.mk (eqop_run ho hs true (by rw [hx']; intro h; cases h) (by rw [hx']; intro c h; cases h) (binOp_eqSem hs T _ _ (by rw [hx']; intro _ _ h; cases h) (by rw [hx']; intro _ _ h; cases h) (by rw [hx']; intro _ _ _ h; cases h) (by rw [hx']; intro _ h; cases h)) (by
      rw [hx', hy']; exact equal_pointer_nil hT w none)) h ?_
    cases s <;> rfl
  · rename_i t off
    obtain ⟨b, _, hx'⟩ := hx
    refine OutQ.mk (eqop_run ho hs false (by rw [hx']; intro h; cases h) (by rw [hx']; intro c h; cases h) (binOp_eqSem hs T _ _ (by rw [hx']; intro _ _ h; cases h) (by rw [hx']; intro _ _ h; cases h) (by rw [hx']; intro _ _ _ h; cases h) (by rw [hx']; intro _ h; cases h)) (by
      rw [hx', hy']; exact equal_pointer_nil hT w _)) h ?_
    cases s <;> rfl
  · exact h.elim
end Go.AM

namespace Go.AM
open Go
variable {P : Program} {w0 : World} {F : Nat → Prop}

/-! ### a part of a row cleared -/
theorem setAll_cells (K : Kind) : ∀ (zs : List K.T) (xs : List K.T) (off : Nat), off + zs.length ≤ xs.length → setAll (K.cells xs) (off * K.sz) (K.cells zs) = K.cells (xs.take off ++ zs ++ xs.drop (off + zs.length)) := by
  intro zs xs off h
  have hx : K.cells xs = K.cells (xs.take off) ++ (K.cells ((xs.drop off).take zs.length) ++ K.cells (xs.drop (off + zs.length))) := by
    rw [← K.cells_append, ← K.cells_append]
    congr 1
    rw [← List.drop_drop, List.take_append_drop, List.take_append_drop]
  have hl : (K.cells (xs.take off)).length = off * K.sz := by rw [K.cells_length, List.length_take, Nat.min_eq_left (by omega)]
  rw [hx, ← hl, show (K.cells (xs.take off)).length = (K.cells (xs.take off)).length + 0 from rfl, setAll_append_right, setAll_append_left _ _ _ _ (by rw [K.cells_length, K.cells_length, List.length_take, List.length_drop, Nat.min_eq_left (by omega)]; omega), K.cells_append, K.cells_append, List.append_assoc]
  congr 2
  have full : ∀ (vs cs : List Value), vs.length = cs.length → setAll cs 0 vs = vs := by
    intro vs
    have gen : ∀ (vs : List Value) (A cs : List Value), vs.length = cs.length → setAll (A ++ cs) A.length vs = A ++ vs := by
      intro vs
      induction vs with
      | nil => intro A cs h; cases cs with | nil => rfl | cons _ _ => simp at h
      | cons v vs ih =>
        intro A cs h
        cases cs with
        | nil => simp at h
        | cons c cs =>
          simp only [List.length_cons, Nat.add_right_cancel_iff] at h
          show setAll ((A ++ c :: cs).set A.length v) (A.length + 1) vs = _
          have e1 : (A ++ c :: cs).set A.length v = (A ++ [v]) ++ cs := by simp
          have e2 : A.length + 1 = (A ++ [v]).length := by simp
          rw [e1, e2, ih (A ++ [v]) cs h]
          simp
    intro cs h
    exact gen vs [] cs h
  exact full _ _ (by rw [K.cells_length, K.cells_length, List.length_take, List.length_drop, Nat.min_eq_left (by omega)])

theorem zeroCells_eq (K : Kind) (z : Value) (hz : z.cells.toList = K.enc K.d) (n : Nat) : (Builtin.zeroCells z.cells n).toList = K.cells (List.replicate n K.d) := by
  have hs : z.cells.size = K.sz := by rw [← Array.length_toList, hz, K.len]
  unfold Builtin.zeroCells
  rw [Array.toList_map, Array.toList_range, hs]
  induction n with
  | zero => simp [Kind.cells]
  | succ n ih =>
    have hp := K.pos
    rw [Nat.add_mul, Nat.one_mul, List.range_add, List.map_append, ih, List.replicate_succ', K.cells_append]
    congr 1
    simp only [Kind.cells, List.flatMap_cons, List.flatMap_nil, List.append_nil, List.map_map]
    rw [← hz]
    apply List.ext_getElem?
    intro i
    rw [List.getElem?_map]
    by_cases hi : i < K.sz
    · rw [List.getElem?_range hi, Option.map_some]
      simp only [Function.comp]
      rw [Nat.mul_comm, Nat.mul_add_mod, Nat.mod_eq_of_lt hi, Array.getElem?_toList]
      rw [Array.getElem?_eq_getElem (by omega), getElem!_pos z.cells i (by omega)]
    · rw [List.getElem?_eq_none (by simp; omega), List.getElem?_eq_none (by rw [Array.length_toList]; omega)]; rfl

/-- cells of one's own row set -/
theorem run_storeOwn {K : Kind} {v : Value} {xs : List K.T} {w : World} {b n0 c : Nat} (hown : w.ownsRow 0 K.elem K.sz v xs.length (K.cells xs)) (hv : v = .slice (some ⟨b, 0, none⟩) n0 c) (off : Nat) (ys : List K.T) (hle : off + ys.length ≤ c) :
    ∃ w', (storeCells ⟨b, off * K.sz, none⟩ (K.cells ys)).run P w = .ok () w' ∧ (∀ k, k ≠ b → w'.heap[k]? = w.heap[k]?) ∧ w'.heap.size = w.heap.size ∧ w'.os = w.os ∧ w'.tape = w.tape ∧ w'.output = w.output ∧
      (off + ys.length ≤ xs.length → w'.ownsRow 0 K.elem K.sz v xs.length (K.cells (xs.take off ++ ys ++ xs.drop (off + ys.length)))) ∧
      (xs.length ≤ off → w'.ownsRow 0 K.elem K.sz v xs.length (K.cells xs)) := by
  obtain ⟨hcl, hrest⟩ := hown
  rcases hrest with ⟨h1, _⟩ | ⟨g, cap, cur, h1, hb0, hg, hnc, hcm, hcs, htk⟩
  · rw [hv] at h1; cases h1
  · rw [hv] at h1; cases h1
    have hbound : off * K.sz + 0 + (K.cells ys).length ≤ cur.toList.length := by
      have := Nat.mul_le_mul_right K.sz hle
      rw [Nat.add_mul] at this
      have h2 : cur.toList.length = c * K.sz := by rw [Array.length_toList, hcs]
      rw [K.cells_length, h2]; omega
    have hone : ∀ u ∈ K.cells ys, u.oneCell' = true := fun u hu => by
      unfold Kind.cells at hu
      obtain ⟨y, _, hy⟩ := List.mem_flatMap.1 hu
      exact K.one y u hy
    obtain ⟨w', hrun, hb', hk, hs, e1, e2, e3⟩ := run_storeCells (P := P) b K.elem (0, 0) (off * K.sz) (K.cells ys) 0 cur.toList w hg (fun q _ => by simp) hbound hone
    rw [Nat.add_zero] at hb'
    have htk' : cur.toList = K.cells xs ++ cur.toList.drop (xs.length * K.sz) := by
      rw [← htk]; exact (List.take_append_drop _ _).symm
    have hxl := K.cells_length xs
    refine ⟨w', hrun, hk, hs, e1, e2, e3, fun hin => ?_, fun hout => ?_⟩
    · have hlen : (xs.take off ++ ys ++ xs.drop (off + ys.length)).length = xs.length := by simp; omega
      refine ⟨by rw [K.cells_length, hlen], .inr ⟨b, c, _, by rw [hv], hb0, hb', hnc, hcm, by simp [setAll_length, hcs], ?_⟩⟩
      show List.take _ (setAll cur.toList _ _) = _
      have hm1 := Nat.mul_le_mul_right K.sz hin
      rw [Nat.add_mul] at hm1
      rw [htk', setAll_append_left _ _ _ _ (by rw [K.cells_length, K.cells_length]; exact hm1), setAll_cells K ys xs off hin]
      rw [List.take_append_of_le_length (by rw [K.cells_length, hlen]; exact Nat.le_refl _)]
      exact List.take_of_length_le (by rw [K.cells_length, hlen]; exact Nat.le_refl _)
    · refine ⟨hxl, .inr ⟨b, c, _, by rw [hv], hb0, hb', hnc, hcm, by simp [setAll_length, hcs], ?_⟩⟩
      show List.take _ (setAll cur.toList _ _) = _
      have hm1 := Nat.mul_le_mul_right K.sz hout
      rw [htk', show off * K.sz = (K.cells xs).length + (off * K.sz - xs.length * K.sz) by omega, setAll_append_right]
      rw [List.take_append_of_le_length (by rw [hxl]; exact Nat.le_refl _)]
      exact List.take_of_length_le (by rw [hxl]; exact Nat.le_refl _)

def clearOp (P : Program) (m : List Item) (T : TypeId) (x : AVal) (K : AVal → List Item → Prop) : Prop :=
  match P.underlying T, x with
  | some (.slice e), .sc (.sub t sz off n) => match nth? m t, P.info? e with
    | some (.slc Kd xs), some i => match i.zero with
      | some z => Need (z.cells.toList = Kd.enc Kd.d ∧ sz = Kd.sz) (setK m t (.slc Kd (xs.take off ++ List.replicate n Kd.d ++ xs.drop (off + n))) fun m' => K (.tup []) m')
      | none => False
    | _, _ => False
  | some (.slice e), .sc (.tail t sz off n) => match nth? m t, P.info? e with
    | some (.slx Kd xs N), some i => match i.zero with
      | some z => Need (z.cells.toList = Kd.enc Kd.d ∧ sz = Kd.sz ∧ xs.length ≤ off) (K (.tup []) m)
      | none => False
    | _, _ => False
  | _, _ => False
theorem add_at' (b o n : Nat) (A : Option Addr) (h : A = some ⟨b, o, none⟩) : A.map (fun a => a.add n) = some ⟨b, o + n, none⟩ := by subst h; simp [add_at]
theorem clear_run {K : Kind} {v : Value} {xs : List K.T} {w : World} {T e : TypeId} {i : TypeInfo} {z : Value} {A : Option Addr} {n0 c off n : Nat} (hT : P.underlying T = some (.slice e)) (hi : P.info? e = some i) (hz : i.zero = some z) (hzd : z.cells.toList = K.enc K.d)
    (hown : w.ownsRow 0 K.elem K.sz v xs.length (K.cells xs)) (hv : v = .slice A n0 c) (hle : off + n ≤ c) (ty : TypeId) :
    ∃ w', (Builtin.clear_ #[T] ty #[.slice (if c = off then A else A.map (fun a => a.add (off * K.sz))) n (c - off)]).run P w = .ok (.tuple #[]) w' ∧ (∀ k, v.ownBlock ≠ some k → w'.heap[k]? = w.heap[k]?) ∧ w'.heap.size = w.heap.size ∧ w'.os = w.os ∧ w'.tape = w.tape ∧ w'.output = w.output ∧
      (off + n ≤ xs.length → w'.ownsRow 0 K.elem K.sz v xs.length (K.cells (xs.take off ++ List.replicate n K.d ++ xs.drop (off + n)))) ∧
      (xs.length ≤ off → w'.ownsRow 0 K.elem K.sz v xs.length (K.cells xs)) := by
  by_cases hn : n = 0
  · subst hn
    refine ⟨w, ?_, fun _ _ => rfl, rfl, rfl, rfl, rfl, fun _ => by simpa using hown, fun _ => hown⟩
    generalize (if c = off then A else A.map (fun a => a.add (off * K.sz))) = B
    cases B <;> simp [Builtin.clear_, run_underlying w hT]
  · have hA : ∃ b, A = some ⟨b, 0, none⟩ := by
      rcases hown.2 with ⟨h1, _⟩ | ⟨g, cap, cur, h1, _⟩
      · rw [hv] at h1; cases h1; omega
      · rw [hv] at h1; cases h1; exact ⟨g, rfl⟩
    obtain ⟨b, rfl⟩ := hA
    rw [if_neg (by omega), add_at' b 0 _ _ rfl, Nat.zero_add]
    obtain ⟨w', hrun, hk, hs, e1, e2, e3, h1, h2⟩ := run_storeOwn (P := P) hown hv off (List.replicate n K.d) (by simpa using hle)
    rw [List.length_replicate] at h1
    refine ⟨w', ?_, fun k hk' => hk k (fun e => hk' (by subst e; rw [hv]; rfl)), hs, e1, e2, e3, h1, h2⟩
    have hn' : ∃ n', n = n' + 1 := ⟨n - 1, by omega⟩
    obtain ⟨n', rfl⟩ := hn'
    simp [Builtin.clear_, run_underlying w hT, run_zeroValue w hi hz, zeroCells_eq K z hzd, hrun]
theorem clearOp_out {o : Oper} {a : Act} {w : World} {env m} {K} {T : TypeId} {x : Operand} {X : AVal} (ho : o.op = .call { callee := .builtin .clear, args := #[x], argTypes := #[T] }) (h : clearOp P m T X K) (hx : Rep env X (a.eval x)) (hM : MemH w0 F env m w) : Out P o a w w0 F env K := by
  obtain ⟨fp, hf⟩ := hM
  unfold clearOp at h
  split at h
  · rename_i e t sz off n hT
    split at h
    · rename_i Kd xs i hm hi
      rw [nth?_eq] at hm
      split at h
      · rename_i z hz
        obtain ⟨⟨hzd, rfl⟩, h⟩ := h
        rw [setK_eq] at h
        obtain ⟨A, n0, c, hb, hle, hv⟩ := hx
        obtain ⟨hown, hfp⟩ := hf.item t _ _ hm hb
        obtain ⟨A', c', hv', hl', _⟩ := row_cells' hf hm rfl hb
        cases hv'
        obtain ⟨w', hrun, hk, hs, e1, e2, e3, h1, _⟩ := clear_run (P := P) hT hi hz hzd hown rfl (by omega : off + n ≤ c) o.type
        refine Out.value (v := .tuple #[]) (w' := w') ?_ h (Ext.refl _) ⟨_, rfl, rfl⟩ ⟨fp, hf.turn t (fun k hkl hk' => hk k (fun e => hk' ((hfp k).2 e))) e1 e2 e3 (by omega) _ fun u hu => ?_⟩
        · simp only [execOp, ho, Sem.run_bind, resolve, invoke, builtin, Sem.run_pure, Result.andThen_ok, List.map_toArray, List.map_cons, List.map_nil, hv, hrun]
        · rw [hb] at hu; cases hu
          have hlen : (xs.take off ++ List.replicate n Kd.d ++ xs.drop (off + n)).length = xs.length := by simp; omega
          refine ⟨?_, hfp⟩
          rw [hlen]
          exact h1 hle
      · exact h.elim
    · exact h.elim
  · rename_i e t sz off n hT
    split at h
    · rename_i Kd xs N i hm hi
      rw [nth?_eq] at hm
      split at h
      · rename_i z hz
        obtain ⟨⟨hzd, rfl, hout⟩, h⟩ := h
        obtain ⟨A, n0, c, hb, hle, hv⟩ := hx
        obtain ⟨⟨hown, hcap⟩, hfp⟩ := hf.item t _ _ hm hb
        obtain ⟨w', hrun, hk, hs, e1, e2, e3, _, h2⟩ := clear_run (P := P) hT hi hz hzd hown rfl hle o.type
        have hset : m = m.set t (.slx Kd xs N) := by
          apply List.ext_getElem?
          intro j
          by_cases hj : t = j
          · subst hj
            rw [List.getElem?_set_self (List.getElem?_eq_some_iff.1 hm).1]; exact hm
          · rw [List.getElem?_set_ne hj]
        refine Out.value (v := .tuple #[]) (r := .tup []) (w' := w') (m' := m.set t (.slx Kd xs N)) ?_ (by rw [← hset]; exact h) (Ext.refl _) ⟨_, rfl, rfl⟩ ⟨fp, hf.turn t (fun k hkl hk' => hk k (fun e => hk' ((hfp k).2 e))) e1 e2 e3 (by omega) _ fun u hu => ?_⟩
        · simp only [execOp, ho, Sem.run_bind, resolve, invoke, builtin, Sem.run_pure, Result.andThen_ok, List.map_toArray, List.map_cons, List.map_nil, hv, hrun]
        · rw [hb] at hu; cases hu
          exact ⟨⟨h2 hout, hcap⟩, hfp⟩
      · exact h.elim
    · exact h.elim
  · exact h.elim
end Go.AM
