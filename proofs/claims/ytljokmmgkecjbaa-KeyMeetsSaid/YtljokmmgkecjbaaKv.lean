/- Lemmas for the claim's theorem. -/
import Derived.Test.YtljokmmgkecjbaaKa
import Derived.ProofKit
import Derived.OpenShut
import Derived.ShutString
import Derived.ChangeOld
import Derived.Below
import Derived.SizedLaws
import Derived.Lib.SmallJoins
set_option linter.unusedVariables false
set_option linter.unusedSimpArgs false
set_option maxRecDepth 100000
namespace Go.Proofs.Ytljokmmgkecjbaa
open Go Go.AM Go.ChangeShapes Go.RowKit Go.ChangeAt Go.WideShapes

theorem calls_below {P : Program} {f : FuncId} {args : List AVal} {vs : List Value} (h : TripleF P f args [] (fun r _ => r = .sc (.bool true))) (hr : RepL [] args vs) (W : World) :
    Calls P f ⟨vs⟩ W fun e W' => e = .returned (.bool true) ∧ Below W.heap.size W W' := by
  obtain ⟨_, hc⟩ := h W (fun _ => False) [] vs W ⟨fun _ _ => False, rfl, Keep.refl _ _, fun t it v h => by simp at h, fun _ _ _ h => h, fun _ _ _ h => h.elim, fun _ _ h => h.elim⟩ hr
  refine hc.mono ?_
  rintro e w' ⟨r, m', env', v, rfl, rfl, _, hv, fp, hf⟩
  have hv : v = .bool true := hv
  subst hv
  exact ⟨rfl, hf.keep.os, hf.keep.tape, hf.keep.output, hf.keep.size, fun k hk => hf.keep.block k hk (fun h => h)⟩

section
variable {H : Type} {enc : TypeId × Value → H} {P : Program} {w : World} {base : Nat} {spare : Nat → Bool} {held : Bool} {r : Reach} {b0 : Nat} {v : Value} {d : DataW H} {p : List MemPlace}
open Go.ChangeShapes Go.WideShapes Go.ChangeAt Go.RowKit Go.Deep

/-- a struct's one-cell fields, one by one -/
theorem open_fields {t : TypeId} {fs : Array Field} (hs : P.underlying t = some (.struct fs)) (hone : oneCellFields P fs = true) (hv : Value.okWide P w r b0 t v) (h : DataW.Trod enc P w base spare held t v d p) :
    ∃ cs : List Value, v = .agg ⟨cs⟩ ∧ cs.length = P.cellsOf t ∧ ∀ (i : Nat) (f : Field) (c : Value), fs[i]? = some f → cs[i]? = some c → ∃ n y, DataW.trod enc P w base spare held n f.type [c] = some y := by
  obtain ⟨cs, rfl, hsz⟩ := okWide_struct hs hv
  obtain ⟨fuel, hf⟩ := h
  obtain ⟨xs, n, _, _, hl, hlen, hfi⟩ := DataW.trod_struct hs hf
  refine ⟨cs.toList, rfl, by simpa using hsz, fun i f c hi hc => ?_⟩
  obtain ⟨o, k⟩ := hone_of hone i f hi
  have := hfi i f hi
  have hlt : i < xs.length := by rw [hlen]; exact (Array.getElem?_eq_some_iff.1 hi).1
  rw [List.getElem?_eq_getElem hlt] at this
  refine ⟨n, xs[i], ?_⟩
  rw [← this, o, k]
  congr 1
  have hci : ((Value.agg cs).cells.toList).drop i = c :: ((Value.agg cs).cells.toList).drop (i + 1) := by
    have hlt2 : i < cs.toList.length := (List.getElem?_eq_some_iff.1 hc).1
    have : (Value.agg cs).cells.toList = cs.toList := rfl
    rw [this, List.drop_eq_getElem_cons hlt2]
    congr 1
    exact (List.getElem?_eq_some_iff.1 hc).2
  rw [hci]; rfl
end

def Rng.V (r : Rng) : Value := .agg #[.string r.lo, .string r.hi, .bool r.e]
theorem Rng.rep (env : List Value) (r : Rng) : Rep env r.A r.V := ⟨_, rfl, _, _, rfl, rfl, _, _, rfl, rfl, _, _, rfl, rfl, rfl⟩
def DS.V (d : DS) : Value := .agg #[.int .i64 d.id, .int .i64 d.org, .int .i64 d.fmt, .int .i64 d.len, .int .i64 d.blk, .int .i64 d.kat, .int .i64 d.kln, .int .i64 d.itv, .int .i64 d.area, .int .i64 d.fi, .int .i64 d.fa,
  .int .i64 d.base, .int .i64 d.aat, .int .i64 d.aln, .bool d.uniq, .int .i64 d.cls, .string d.vol, .string d.own, .int .i64 d.cre, .int .i64 d.exp, .bool d.arch]
theorem DS.rep (env : List Value) (d : DS) : Rep env d.A d.V :=
  ⟨_, rfl, _, _, rfl, rfl, _, _, rfl, rfl, _, _, rfl, rfl, _, _, rfl, rfl, _, _, rfl, rfl, _, _, rfl, rfl, _, _, rfl, rfl, _, _, rfl, rfl, _, _, rfl, rfl, _, _, rfl, rfl, _, _, rfl, rfl, _, _, rfl, rfl, _, _, rfl, rfl, _, _, rfl, rfl, _, _, rfl, rfl, _, _, rfl, rfl, _, _, rfl, rfl, _, _, rfl, rfl, _, _, rfl, rfl, _, _, rfl, rfl, _, _, rfl, rfl, rfl⟩
section
variable {H : Type} {enc : TypeId × Value → H} {w : World} {base : Nat} {spare : Nat → Bool} {held : Bool} {r : Reach} {b0 : Nat} {v : Value} {d : DataW H} {p : List MemPlace}
theorem cell_i64 {n : Nat} {c : Value} {y} (h : DataW.trod enc Try.prog w base spare held n 3 [c] = some y) : ∃ x : Int, c = .int .i64 x := by
  obtain ⟨x, hx, _⟩ := DataW.trod_int Try.underlying3 h
  exact ⟨x, by simpa using hx⟩
theorem cell_str {n : Nat} {c : Value} {y} (h : DataW.trod enc Try.prog w base spare held n 9 [c] = some y) : ∃ x : ByteArray, c = .string x := by
  obtain ⟨x, hx, _⟩ := DataW.trod_string Try.underlying9 h
  exact ⟨x, by simpa using hx⟩
theorem cell_bool {n : Nat} {c : Value} {y} (h : DataW.trod enc Try.prog w base spare held n 4 [c] = some y) : ∃ x : Bool, c = .bool x := by
  obtain ⟨x, hx, _⟩ := DataW.trod_bool Try.underlying4 h
  exact ⟨x, by simpa using hx⟩
theorem list3 {α : Type} {l : List α} (h : l.length = 3) : ∃ a b c, l = [a, b, c] := by
  match l, h with
  | [a, b, c], _ => exact ⟨a, b, c, rfl⟩
theorem list21 {α : Type} {l : List α} (h : l.length = 21) : ∃ a0 a1 a2 a3 a4 a5 a6 a7 a8 a9 a10 a11 a12 a13 a14 a15 a16 a17 a18 a19 a20, l = [a0, a1, a2, a3, a4, a5, a6, a7, a8, a9, a10, a11, a12, a13, a14, a15, a16, a17, a18, a19, a20] := by
  match l, h with
  | [a0, a1, a2, a3, a4, a5, a6, a7, a8, a9, a10, a11, a12, a13, a14, a15, a16, a17, a18, a19, a20], _ => exact ⟨a0, a1, a2, a3, a4, a5, a6, a7, a8, a9, a10, a11, a12, a13, a14, a15, a16, a17, a18, a19, a20, rfl⟩
theorem open_rng (hv : Value.okWide Try.prog w r b0 33 v) (h : DataW.Trod enc Try.prog w base spare held 33 v d p) : ∃ x : Rng, v = x.V := by
  obtain ⟨cs, rfl, hl, hf⟩ := open_fields Try.underlying33 (by kernel_rfl) hv h
  obtain ⟨a, b, c, rfl⟩ := list3 (hl.trans (by kernel_rfl))
  obtain ⟨_, _, h0⟩ := hf 0 _ a rfl rfl
  obtain ⟨_, _, h1⟩ := hf 1 _ b rfl rfl
  obtain ⟨_, _, h2⟩ := hf 2 _ c rfl rfl
  obtain ⟨lo, rfl⟩ := cell_str h0
  obtain ⟨hi, rfl⟩ := cell_str h1
  obtain ⟨e, rfl⟩ := cell_bool h2
  exact ⟨⟨lo, hi, e⟩, rfl⟩
theorem open_ds (hv : Value.okWide Try.prog w r b0 41 v) (h : DataW.Trod enc Try.prog w base spare held 41 v d p) : ∃ x : DS, v = x.V := by
  obtain ⟨cs, rfl, hl, hf⟩ := open_fields Try.underlying41 (by kernel_rfl) hv h
  obtain ⟨a0, a1, a2, a3, a4, a5, a6, a7, a8, a9, a10, a11, a12, a13, a14, a15, a16, a17, a18, a19, a20, rfl⟩ := list21 (hl.trans (by kernel_rfl))
  obtain ⟨_, _, h0⟩ := hf 0 _ a0 rfl rfl
  obtain ⟨_, _, h1⟩ := hf 1 _ a1 rfl rfl
  obtain ⟨_, _, h2⟩ := hf 2 _ a2 rfl rfl
  obtain ⟨_, _, h3⟩ := hf 3 _ a3 rfl rfl
  obtain ⟨_, _, h4⟩ := hf 4 _ a4 rfl rfl
  obtain ⟨_, _, h5⟩ := hf 5 _ a5 rfl rfl
  obtain ⟨_, _, h6⟩ := hf 6 _ a6 rfl rfl
  obtain ⟨_, _, h7⟩ := hf 7 _ a7 rfl rfl
  obtain ⟨_, _, h8⟩ := hf 8 _ a8 rfl rfl
  obtain ⟨_, _, h9⟩ := hf 9 _ a9 rfl rfl
  obtain ⟨_, _, h10⟩ := hf 10 _ a10 rfl rfl
  obtain ⟨_, _, h11⟩ := hf 11 _ a11 rfl rfl
  obtain ⟨_, _, h12⟩ := hf 12 _ a12 rfl rfl
  obtain ⟨_, _, h13⟩ := hf 13 _ a13 rfl rfl
  obtain ⟨_, _, h14⟩ := hf 14 _ a14 rfl rfl
  obtain ⟨_, _, h15⟩ := hf 15 _ a15 rfl rfl
  obtain ⟨_, _, h16⟩ := hf 16 _ a16 rfl rfl
  obtain ⟨_, _, h17⟩ := hf 17 _ a17 rfl rfl
  obtain ⟨_, _, h18⟩ := hf 18 _ a18 rfl rfl
  obtain ⟨_, _, h19⟩ := hf 19 _ a19 rfl rfl
  obtain ⟨_, _, h20⟩ := hf 20 _ a20 rfl rfl
  obtain ⟨x0, rfl⟩ := cell_i64 h0
  obtain ⟨x1, rfl⟩ := cell_i64 h1
  obtain ⟨x2, rfl⟩ := cell_i64 h2
  obtain ⟨x3, rfl⟩ := cell_i64 h3
  obtain ⟨x4, rfl⟩ := cell_i64 h4
  obtain ⟨x5, rfl⟩ := cell_i64 h5
  obtain ⟨x6, rfl⟩ := cell_i64 h6
  obtain ⟨x7, rfl⟩ := cell_i64 h7
  obtain ⟨x8, rfl⟩ := cell_i64 h8
  obtain ⟨x9, rfl⟩ := cell_i64 h9
  obtain ⟨x10, rfl⟩ := cell_i64 h10
  obtain ⟨x11, rfl⟩ := cell_i64 h11
  obtain ⟨x12, rfl⟩ := cell_i64 h12
  obtain ⟨x13, rfl⟩ := cell_i64 h13
  obtain ⟨x14, rfl⟩ := cell_bool h14
  obtain ⟨x15, rfl⟩ := cell_i64 h15
  obtain ⟨x16, rfl⟩ := cell_str h16
  obtain ⟨x17, rfl⟩ := cell_str h17
  obtain ⟨x18, rfl⟩ := cell_i64 h18
  obtain ⟨x19, rfl⟩ := cell_i64 h19
  obtain ⟨x20, rfl⟩ := cell_bool h20
  exact ⟨⟨x0, x1, x2, x3, x4, x5, x6, x7, x8, x9, x10, x11, x12, x13, x14, x15, x16, x17, x18, x19, x20⟩, rfl⟩
end
end Go.Proofs.Ytljokmmgkecjbaa
