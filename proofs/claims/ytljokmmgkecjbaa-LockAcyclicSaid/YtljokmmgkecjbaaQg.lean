/- Lemmas for the claim's theorem. -/
import Derived.Test.YtljokmmgkecjbaaQf
set_option linter.unusedVariables false
set_option linter.unusedSimpArgs false
set_option maxRecDepth 100000
namespace Go.Proofs.Ytljokmmgkecjbaa
open Go Go.AM
/-! the graph of who waits for whom has no ring -/
def Eg (held queue : List Lk) (a b : Int) : Prop := ∃ pre l post, queue = pre ++ l :: post ∧ l.u = a ∧ b ∈ keysM (blkM held pre l)
inductive Path (E : Int → Int → Prop) : Int → Int → Prop where
  | one {a b : Int} (h : E a b) : Path E a b
  | step {a b c : Int} (h : E a b) (r : Path E b c) : Path E a c
def Acyc (E : Int → Int → Prop) : Prop := ∀ a, ¬ Path E a a
theorem Path.trans {E : Int → Int → Prop} {a b c : Int} (h : Path E a b) (k : Path E b c) : Path E a c := by
  induction h with
  | one h => exact .step h k
  | step h _ ih => exact .step h (ih k)
theorem Path.out {E : Int → Int → Prop} {a b : Int} (h : Path E a b) : ∃ c, E a c := by
  cases h with
  | one h => exact ⟨_, h⟩
  | step h _ => exact ⟨_, h⟩
/-- edges into a unit that waits for nobody make no ring -/
theorem acyc_sink {E E' : Int → Int → Prop} {v : Int} (h : Acyc E) (hE : ∀ a b, E' a b → E a b ∨ b = v) (hv : ∀ b, ¬ E' v b) : Acyc E' := by
  have key : ∀ a c, Path E' a c → c ≠ v → Path E a c := fun a c hp => by
    induction hp with
    | one h1 => exact fun hc => .one ((hE _ _ h1).resolve_right hc)
    | @step a b c h1 r ih =>
      intro hc
      have hb : b ≠ v := fun e => by
        subst e
        obtain ⟨d, hd⟩ := r.out
        exact hv _ hd
      exact .step ((hE _ _ h1).resolve_right hb) (ih hc)
  intro a hp
  have ha : a ≠ v := fun e => by
    subst e
    obtain ⟨d, hd⟩ := hp.out
    exact hv _ hd
  exact h a (key a a hp ha)
/-- a unit that begins to wait for units that do not reach it makes no ring -/
theorem acyc_new {E E' : Int → Int → Prop} {v : Int} {B : Int → Prop} (h : Acyc E) (hE : ∀ a b, E' a b → E a b ∨ (a = v ∧ B b)) (hB : ∀ b, B b → b ≠ v ∧ ¬ Path E b v) : Acyc E' := by
  have key : ∀ a c, Path E' a c → Path E a c ∨ ((a = v ∨ Path E a v) ∧ ∃ b, B b ∧ (b = c ∨ Path E b c)) := fun a c hp => by
    induction hp with
    | @one a b h1 =>
      rcases hE _ _ h1 with h2 | ⟨h2, h3⟩
      · exact .inl (.one h2)
      · exact .inr ⟨.inl h2, b, h3, .inl rfl⟩
    | @step a b c h1 r ih =>
      rcases hE _ _ h1 with h2 | ⟨h2, h3⟩
      · rcases ih with h4 | ⟨h4 | h4, h5⟩
        · exact .inl (.step h2 h4)
        · exact .inr ⟨.inr (.one (h4 ▸ h2)), h5⟩
        · exact .inr ⟨.inr (.step h2 h4), h5⟩
      · rcases ih with h4 | ⟨_, h5⟩
        · exact .inr ⟨.inl h2, b, h3, .inr h4⟩
        · exact .inr ⟨.inl h2, h5⟩
  intro a hp
  rcases key a a hp with h1 | ⟨h1, b, hb, h2⟩
  · exact h a h1
  · rcases h1 with rfl | h1
    · rcases h2 with rfl | h2
      · exact (hB _ hb).1 rfl
      · exact (hB _ hb).2 h2
    · rcases h2 with rfl | h2
      · exact (hB _ hb).2 h1
      · exact (hB _ hb).2 (h2.trans h1)
theorem reach_path {held queue : List Lk} {a b : Int} (h : Path (edge held queue) a b) : Reach held queue a b := by
  induction h with
  | one h => exact .step h (.refl _)
  | step h _ ih => exact .step h ih
theorem eg_of_edge {held queue : List Lk} {a b : Int} (h : edge held queue a b) : Eg held queue a b := by
  unfold edge waitM at h
  split at h
  · rename_i hany
    have hlt : queue.findIdx (ofB a) < queue.length := List.findIdx_lt_length.2 (by simpa using hany)
    have hu : ofB a queue[queue.findIdx (ofB a)] = true := List.findIdx_getElem (w := hlt)
    refine ⟨queue.take (queue.findIdx (ofB a)), queue[queue.findIdx (ofB a)], queue.drop (queue.findIdx (ofB a) + 1), ?_, by simpa [ofB] using hu, ?_⟩
    · rw [← List.drop_eq_getElem_cons hlt, List.take_append_drop]
    · rw [List.getD_eq_getElem?_getD, List.getElem?_eq_getElem hlt] at h
      exact h
  · simp [keysM] at h
def Uniq (queue : List Lk) : Prop := queue.Pairwise fun x y => x.u ≠ y.u
theorem uniq_mid {pre post : List Lk} {l : Lk} (h : Uniq (pre ++ l :: post)) : (∀ x ∈ pre, x.u ≠ l.u) ∧ ∀ x ∈ post, x.u ≠ l.u := by
  unfold Uniq at h
  rw [List.pairwise_append] at h
  exact ⟨fun x hx => h.2.2 x hx l (by simp), fun x hx e => (List.pairwise_cons.1 h.2.1).1 x hx e.symm⟩
theorem wait_at {pre post : List Lk} {l : Lk} {held : List Lk} (h : ∀ x ∈ pre, x.u ≠ l.u) : waitM held (pre ++ l :: post) l.u = blkM held pre l := by
  have hany : (pre ++ l :: post).any (ofB l.u) = true := by simp [ofB]
  have hidx : (pre ++ l :: post).findIdx (ofB l.u) = pre.length := by
    rw [List.findIdx_append, if_neg]
    · simp [List.findIdx_cons, ofB]
    · rw [List.findIdx_lt_length]
      rintro ⟨x, hx, hb⟩
      exact h x hx (by simpa [ofB] using hb)
  rw [waitM, if_pos hany, hidx, List.take_left, List.getD_eq_getElem?_getD, List.getElem?_append_right (Nat.le_refl _), Nat.sub_self]; rfl
theorem edge_of_eg {held queue : List Lk} (hu : Uniq queue) {a b : Int} (h : Eg held queue a b) : edge held queue a b := by
  obtain ⟨pre, l, post, rfl, rfl, h⟩ := h
  unfold edge
  rw [wait_at (uniq_mid hu).1]
  exact h
theorem path_mono {E E' : Int → Int → Prop} (h : ∀ a b, E a b → E' a b) {a b : Int} (p : Path E a b) : Path E' a b := by
  induction p with
  | one h1 => exact .one (h _ _ h1)
  | step h1 _ ih => exact .step (h _ _ h1) ih
/-- what holds of a manager whose waiting locks have been looked through up to a place -/
structure Inv (held pre post : List Lk) : Prop where
  un : Uniq (pre ++ post)
  ac : Acyc (Eg held (pre ++ post))
  bl : ∀ p l s, pre = p ++ l :: s → ∃ k, k ∈ keysM (blkM held p l)
theorem filter_own {held : List Lk} {l : Lk} {u : Int} (h : l.u ≠ u) : (held ++ [l]).filter (ofB u) = held.filter (ofB u) := by
  rw [List.filter_append, List.filter_cons]
  have : ofB u l = false := by simpa [ofB] using h
  rw [this]; simp
/-- blockers as held locks grow by one of another unit -/
theorem keys_grow {held p : List Lk} {l y : Lk} (h : l.u ≠ y.u) {k : Int} : k ∈ keysM (blkM (held ++ [l]) p y) ↔ k ∈ keysM (blkM held p y) ∨ (confL l y = true ∧ l.u = k) := by
  rw [keys_blk, keys_blk, filter_own h]
  constructor
  · rintro (⟨x, hx, h1, h2⟩ | h1)
    · rcases List.mem_append.1 hx with hx | hx
      · exact .inl (.inl ⟨x, hx, h1, h2⟩)
      · simp at hx; subst hx; exact .inr ⟨h1, h2⟩
    · exact .inl (.inr h1)
  · rintro ((⟨x, hx, h1, h2⟩ | h1) | ⟨h1, h2⟩)
    · exact .inl ⟨x, List.mem_append.2 (.inl hx), h1, h2⟩
    · exact .inr h1
    · exact .inl ⟨l, by simp, h1, h2⟩
theorem keys_sub {held p q : List Lk} {y : Lk} (h : ∀ x ∈ p, x ∈ q) {k : Int} (hk : k ∈ keysM (blkM held p y)) : k ∈ keysM (blkM held q y) := by
  rw [keys_blk] at hk ⊢
  rcases hk with h1 | ⟨x, hx, h1⟩
  · exact .inl h1
  · exact .inr ⟨x, h x hx, h1⟩
theorem split_mid {pre post p s : List Lk} {y : Lk} (h : pre ++ post = p ++ y :: s) : (∃ t, pre = p ++ y :: t ∧ s = t ++ post) ∨ ∃ t, p = pre ++ t ∧ post = t ++ y :: s := by
  rcases List.append_eq_append_iff.1 h with ⟨t, h1, h2⟩ | ⟨bs, h1, h2⟩
  · exact .inr ⟨t, h1, h2⟩
  · cases bs with
    | nil => exact .inr ⟨[], by simpa using h1.symm, by simpa using h2.symm⟩
    | cons b bs =>
      simp only [List.cons_append, List.cons.injEq] at h2
      obtain ⟨rfl, rfl⟩ := h2
      exact .inl ⟨bs, h1, rfl⟩
theorem uniq_drop {pre post : List Lk} {l : Lk} (h : Uniq (pre ++ l :: post)) : Uniq (pre ++ post) := by
  unfold Uniq at h ⊢
  refine h.sublist ?_
  exact List.Sublist.append (List.Sublist.refl _) (List.sublist_cons_self _ _)
theorem nonempty_key {l : List (Int × Bool)} (h : l.isEmpty = false) : ∃ k, k ∈ keysM l := by
  cases l with
  | nil => cases h
  | cons p l => exact ⟨p.1, by simp [keysM]⟩
/-- to strike a waiting lock and to hold it: no ring comes -/
theorem acyc_grant {held pre post : List Lk} {l : Lk} (hu : Uniq (pre ++ l :: post)) (ha : Acyc (Eg held (pre ++ l :: post))) : Acyc (Eg (held ++ [l]) (pre ++ post)) := by
  have hm := uniq_mid hu
  have hne : ∀ x ∈ pre ++ post, x.u ≠ l.u := fun x hx => (List.mem_append.1 hx).elim (hm.1 x) (hm.2 x)
  refine acyc_sink (v := l.u) ha ?_ ?_
  · rintro a b ⟨p, y, s, hq, rfl, hk⟩
    have hy : y.u ≠ l.u := hne y (by rw [hq]; simp)
    rcases (keys_grow (Ne.symm hy)).1 hk with hk | ⟨_, rfl⟩
    · left
      rcases split_mid hq with ⟨t, rfl, rfl⟩ | ⟨t, rfl, rfl⟩
      · exact ⟨p, y, t ++ l :: post, by simp, rfl, hk⟩
      · exact ⟨pre ++ l :: t, y, s, by simp, rfl, keys_sub (fun x hx => by
          rcases List.mem_append.1 hx with hx | hx
          · simp [hx]
          · simp [hx]) hk⟩
    · exact .inr rfl
  · rintro b ⟨p, y, s, hq, hyu, _⟩
    exact hne y (by rw [hq]; simp) hyu
theorem grant_inv : ∀ (held pre post : List Lk), Inv held pre post → Inv (grantL held pre post).1 (grantL held pre post).2.1 []
  | held, pre, [], h => h
  | held, pre, l :: post, h => by
    unfold grantL
    split
    · refine grant_inv (held ++ [l]) pre post ⟨uniq_drop h.un, acyc_grant h.un h.ac, fun p y s hp => ?_⟩
      obtain ⟨k, hk⟩ := h.bl p y s hp
      have hy : y.u ≠ l.u := (uniq_mid h.un).1 y (by rw [hp]; simp)
      exact ⟨k, (keys_grow (Ne.symm hy)).2 (.inl hk)⟩
    · rename_i he
      refine grant_inv held (pre ++ [l]) post ⟨by rw [List.append_assoc]; exact h.un, by rw [List.append_assoc]; exact h.ac, fun p y s hp => ?_⟩
      rcases split_mid hp with ⟨t, h1, _⟩ | ⟨t, rfl, h2⟩
      · exact h.bl p y t h1
      · cases t with
        | nil =>
          simp only [List.nil_append, List.cons.injEq] at h2
          obtain ⟨rfl, _⟩ := h2
          rw [List.append_nil]
          exact nonempty_key he
        | cons a t => simp at h2
/-- a manager at rest -/
abbrev Good (held queue : List Lk) : Prop := Inv held queue []
theorem Good.un' {held queue : List Lk} (h : Good held queue) : Uniq queue := by simpa using h.un
theorem Good.ac' {held queue : List Lk} (h : Good held queue) : Acyc (Eg held queue) := by simpa using h.ac
theorem uniq_split {p s p2 s2 : List Lk} {y y2 : Lk} (hu : Uniq (p ++ y :: s)) (h : p ++ y :: s = p2 ++ y2 :: s2) (e : y.u = y2.u) : p = p2 ∧ y = y2 ∧ s = s2 := by
  have hm := uniq_mid hu
  rcases split_mid h with ⟨t, rfl, _⟩ | ⟨t, rfl, h2⟩
  · exact absurd e.symm (hm.1 y2 (by simp))
  · cases t with
    | nil =>
      simp only [List.nil_append, List.cons.injEq] at h2
      exact ⟨by simp, h2.1, h2.2⟩
    | cons a t =>
      simp only [List.cons_append, List.cons.injEq] at h2
      obtain ⟨rfl, rfl⟩ := h2
      exact absurd e.symm (hm.2 y2 (by simp))
theorem uniq_filter {queue : List Lk} (h : Uniq queue) (q : Lk → Bool) : Uniq (queue.filter q) := by
  unfold Uniq at h ⊢
  exact h.sublist List.filter_sublist
theorem own_strike {held : List Lk} {u v : Int} (h : v ≠ u) : (held.filter (notB u)).filter (ofB v) = held.filter (ofB v) := by
  rw [List.filter_filter]
  apply List.filter_congr
  intro x _
  by_cases hx : x.u = v
  · have : x.u ≠ u := fun e => h (hx ▸ e)
    simp [ofB, notB, hx, h]
  · simp [ofB, hx]
/-- a unit's waiting (and held) locks struck out -/
theorem acyc_strike {held held' queue : List Lk} {u : Int} (hu : Uniq queue) (ha : Acyc (Eg held queue)) (hh : held' = held ∨ held' = held.filter (notB u)) : Acyc (Eg held' (queue.filter (notB u))) := by
  have hsub : ∀ a b, Eg held' (queue.filter (notB u)) a b → Eg held queue a b := by
    rintro a b ⟨p, y, s, hq, rfl, hk⟩
    have hmem : y ∈ queue.filter (notB u) := by rw [hq]; simp
    have hyq := (List.mem_filter.1 hmem).2
    have hyu : y.u ≠ u := by simpa [notB, ofB] using hyq
    obtain ⟨p', s', hq'⟩ := List.append_of_mem (List.mem_filter.1 hmem).1
    have hp : p = p'.filter (notB u) := by
      have hf : queue.filter (notB u) = p'.filter (notB u) ++ y :: s'.filter (notB u) := by
        rw [hq', List.filter_append, List.filter_cons, if_pos hyq]
      have huf := uniq_filter hu (notB u)
      rw [hq] at huf hf
      exact (uniq_split huf hf rfl).1
    subst hp
    refine ⟨p', y, s', hq', rfl, ?_⟩
    have hown : held'.filter (ofB y.u) = held.filter (ofB y.u) := by
      rcases hh with rfl | rfl
      · rfl
      · exact own_strike hyu
    have hsubh : ∀ x ∈ held', x ∈ held := fun x hx => by
      rcases hh with rfl | rfl
      · exact hx
      · exact (List.mem_filter.1 hx).1
    rw [keys_blk, hown] at hk
    rw [keys_blk]
    rcases hk with ⟨x, hx, h1⟩ | ⟨x, hx, h1⟩
    · exact .inl ⟨x, hsubh x hx, h1⟩
    · exact .inr ⟨x, (List.mem_filter.1 hx).1, h1⟩
  intro a hp
  exact ha a (path_mono hsub hp)
theorem strike_inv {held held' queue : List Lk} {u : Int} (h : Good held queue) (hh : held' = held ∨ held' = held.filter (notB u)) : Inv held' [] (queue.filter (notB u)) :=
  ⟨uniq_filter h.un' _, acyc_strike h.un' h.ac' hh, fun p l s e => by simp at e⟩
theorem cancel_good {held queue : List Lk} (u : Int) (h : Good held queue) : Good (grantL held [] (queue.filter (notB u))).1 (grantL held [] (queue.filter (notB u))).2.1 := grant_inv _ _ _ (strike_inv h (.inl rfl))
theorem rel_good {held queue : List Lk} (u : Int) (h : Good held queue) : Good (relL held queue u).1 (relL held queue u).2.1 := grant_inv _ _ _ (strike_inv h (.inr rfl))
theorem grant_sub : ∀ (held pre post : List Lk), ∀ x ∈ (grantL held pre post).2.1, x ∈ pre ++ post
  | held, pre, [], x, h => by simpa [grantL] using h
  | held, pre, l :: post, x, h => by
    unfold grantL at h
    split at h
    · have := grant_sub (held ++ [l]) pre post x h
      rcases List.mem_append.1 this with h1 | h1 <;> simp [h1]
    · have := grant_sub held (pre ++ [l]) post x h
      simpa using this
theorem ask_good {held queue : List Lk} {l : Lk} (h : Good held queue) (hl : ∀ x ∈ queue, x.u ≠ l.u) : Good (askL held queue l).2.1 (askL held queue l).2.2 := by
  unfold askL
  split
  · show Good (held ++ [l]) queue
    refine ⟨h.un, ?_, fun p y s hp => ?_⟩
    · rw [List.append_nil]
      refine acyc_sink (v := l.u) h.ac' ?_ ?_
      · rintro a b ⟨p, y, s, hq, rfl, hk⟩
        have hy : y.u ≠ l.u := hl y (by rw [hq]; simp)
        rcases (keys_grow (Ne.symm hy)).1 hk with hk | ⟨_, rfl⟩
        · exact .inl ⟨p, y, s, hq, rfl, hk⟩
        · exact .inr rfl
      · rintro b ⟨p, y, s, hq, hyu, _⟩
        exact hl y (by rw [hq]; simp) hyu
    · obtain ⟨k, hk⟩ := h.bl p y s hp
      have hy : y.u ≠ l.u := hl y (by rw [hp]; simp)
      exact ⟨k, (keys_grow (Ne.symm hy)).2 (.inl hk)⟩
  · rename_i he
    split
    · exact h
    · rename_i hr
      have hr : ¬ ∃ k ∈ keysM (blkM held queue l), Reach held queue k l.u := fun hex => by
        have := reach_yes.2 hex
        have hr : reachB held queue (blkM held queue l) l.u = false := by assumption
        rw [hr] at this; cases this
      show Good held (queue ++ [l])
      refine ⟨?_, ?_, fun p y s hp => ?_⟩
      · rw [List.append_nil]
        unfold Uniq
        rw [List.pairwise_append]
        exact ⟨h.un', List.pairwise_singleton _ _, fun x hx y hy => by simp at hy; subst hy; exact hl x hx⟩
      · rw [List.append_nil]
        refine acyc_new (v := l.u) (B := fun b => b ∈ keysM (blkM held queue l)) h.ac' ?_ ?_
        · rintro a b ⟨p, y, s, hq, rfl, hk⟩
          rcases split_mid hq with ⟨t, h1, _⟩ | ⟨t, rfl, h2⟩
          · exact .inl ⟨p, y, t, h1, rfl, hk⟩
          · cases t with
            | nil =>
              simp only [List.nil_append, List.cons.injEq] at h2
              obtain ⟨rfl, _⟩ := h2
              rw [List.append_nil] at hk
              exact .inr ⟨rfl, hk⟩
            | cons a t => simp at h2
        · intro b hb
          refine ⟨fun e => hr ⟨b, hb, e ▸ .refl _⟩, fun hp => hr ⟨b, hb, reach_path (path_mono (fun a b => edge_of_eg h.un') hp)⟩⟩
      · rcases split_mid hp with ⟨t, h1, _⟩ | ⟨t, rfl, h2⟩
        · exact h.bl p y t h1
        · cases t with
          | nil =>
            simp only [List.nil_append, List.cons.injEq] at h2
            obtain ⟨rfl, _⟩ := h2
            rw [List.append_nil]
            exact nonempty_key he
          | cons a t => simp at h2
theorem req_good {held queue : List Lk} {l : Lk} (h : Good held queue) : Good (reqL held queue l).2.1 (reqL held queue l).2.2 := by
  unfold reqL
  split
  · exact h
  · split
    · exact h
    · split
      · rename_i hq
        refine ask_good h fun x hx e => ?_
        rw [List.any_eq_false] at hq
        exact hq x hx (by simp [ofB, e])
      · split
        · exact h
        · refine ask_good (cancel_good _ h) fun x hx e => ?_
          have := grant_sub _ _ _ x hx
          rw [List.nil_append] at this
          have := (List.mem_filter.1 this).2
          simp [notB, ofB, e] at this
theorem do_good {held queue : List Lk} {a : Ac} (h : Good held queue) : Good (doL held queue a).held (doL held queue a).queue := by
  unfold doL
  split
  · exact cancel_good _ h
  · split
    · exact rel_good _ h
    · exact req_good h
theorem good0 : Good [] [] := ⟨List.Pairwise.nil, fun a hp => by
  obtain ⟨c, p, l, s, h, _⟩ := hp.out
  simp at h, fun p l s h => by simp at h⟩
theorem playF_good : ∀ (acts : List Ac) (s : List Lk × List Lk), Good s.1 s.2 → Good (playF acts s).1 (playF acts s).2
  | [], _, h => h
  | a :: acts, s, h => playF_good acts _ (do_good (a := a) h)
theorem play_good (acts : List Ac) : Good (playL acts).1 (playL acts).2 := playF_good acts _ good0
end Go.Proofs.Ytljokmmgkecjbaa

namespace Go.Proofs.Ytljokmmgkecjbaa
open Go Go.AM
/-! the numbers of a list, sorted, each once -/
def insL (x : Int) : List Int → List Int
  | [] => [x]
  | y :: ys => if y < x then y :: insL x ys else if y = x then y :: ys else x :: y :: ys
def setL (xs : List Int) : List Int := xs.foldl (fun out x => insL x out) []
theorem ins_at (x : Int) : ∀ (out : List Int) (k : Nat), k ≤ out.length → (∀ j, j < k → out.getD j 0 < x) → (k < out.length → ¬ out.getD k 0 < x) →
    insL x out = if k < out.length ∧ out.getD k 0 = x then out else out.take k ++ [x] ++ out.drop k
  | [], k, h1, h2, h3 => by
    have : k = 0 := by simpa using h1
    subst this; simp [insL]
  | y :: ys, 0, h1, h2, h3 => by
    have h3 := h3 (by simp)
    simp at h3
    have : ¬ y < x := by omega
    simp only [insL, if_neg this]
    by_cases e : y = x
    · simp [e]
    · simp [e]
  | y :: ys, k + 1, h1, h2, h3 => by
    have h0 : y < x := by simpa using h2 0 (by omega)
    have ih := ins_at x ys k (by simpa using h1) (fun j hj => by simpa using h2 (j + 1) (by omega)) (fun hk => by simpa using h3 (by simpa using hk))
    simp only [insL, if_pos h0, ih]
    by_cases e : k < ys.length ∧ ys.getD k 0 = x
    · rw [if_pos e, if_pos (by simpa using e)]
    · rw [if_neg e, if_neg (by simpa using e)]; simp
theorem ins_len (x : Int) : ∀ out : List Int, (insL x out).length ≤ out.length + 1
  | [] => by simp [insL]
  | y :: ys => by
    have := ins_len x ys
    simp only [insL]
    split
    · simp; omega
    · split <;> simp
theorem set_snoc {xs : List Int} {k : Nat} (hk : k < xs.length) : setL (xs.take (k + 1)) = insL (xs.getD k 0) (setL (xs.take k)) := by
  unfold setL
  rw [List.take_succ_eq_append_getElem hk, List.foldl_append, List.getD_eq_getElem?_getD, List.getElem?_eq_getElem hk]; rfl
theorem setF_len : ∀ (xs out : List Int), (xs.foldl (fun out x => insL x out) out).length ≤ out.length + xs.length
  | [], out => by simp
  | x :: xs, out => by
    have h1 := setF_len xs (insL x out)
    have h2 := ins_len x out
    simp only [List.foldl_cons, List.length_cons] at *; omega
theorem set_len (xs : List Int) : (setL xs).length ≤ xs.length := by have := setF_len xs []; simpa [setL] using this
noncomputable def E70 : Eng := mkEng Try.prog kinds46b noEq noQT noSpec noQ
theorem E70_ok : E70.Ok := mkEng_ok mixedT (fun _ _ _ _ h => by cases h) (fun _ _ _ _ h => h.elim) (fun _ _ _ _ _ h => by cases h) (fun _ _ _ _ h => by cases h)
set_option maxHeartbeats 2000000 in
theorem set_base (xs : List Int) (hb : xs.length ≤ 1048576) : TripleF Try.prog 70 [.sc (.h 0)] [.ro int55 xs] (fun r m' => r = .sc (.h 1) ∧ m' = [.ro int55 xs, .slc int55 (setL xs)]) := by
  refine triple_of_awp E70_ok Try.func70 rfl (by kernel_rfl) ?_
  conv => whnf
  refine LoopF.inv Nat (fun i => i ≤ xs.length) (fun i => [(4, .sc (.int false .i64 (i : Int))), (3, .sc (.h 2))]) (fun i => xs.length - i)
    (fun i => [.ro int55 xs, .gone, .slc int55 (setL (xs.take i))]) (fun _ => Nat.le_succ _) 0 [1]
    (Nat.zero_le _) ⟨⟨⟨rfl, rfl⟩, ⟨rfl, rfl⟩, trivial⟩, ⟨rfl, trivial, rfl, trivial⟩, rfl⟩ ?_
  rintro i h1
  have hsl := set_len (xs.take i)
  rw [List.length_take] at hsl
  generalize hout : setL (xs.take i) = out at hsl
  conv => whnf
  refine Know.mk fun hlen => ?_
  conv => whnf
  refine Br.mk (fun c1 => ?_) (fun c1 => ?_)
  · have hi := ltN c1
    have hst := set_snoc hi
    rw [hout] at hst
    conv => whnf
    refine LoopF.inv Nat (fun k => k ≤ out.length ∧ ∀ j, j < k → out.getD j 0 < xs.getD i 0) (fun k => [(5, .sc (.int false .i64 (k : Int)))]) (fun k => out.length - k)
      (fun k => [.ro int55 xs, .gone, .slc int55 out]) (fun _ => Nat.le_refl _) 0 []
      ⟨Nat.zero_le _, fun j hj => absurd hj (Nat.not_lt_zero _)⟩ ⟨⟨⟨rfl, rfl⟩, trivial⟩, ⟨rfl, trivial, rfl, trivial⟩, rfl⟩ ?_
    rintro k ⟨h2, h3⟩
    conv => whnf
    refine Need.mk (by kernel_rfl) ?_
    conv => whnf
    refine Know.mk fun hlen2 => ?_
    conv => whnf
    refine Br.mk (fun c2 => ?_) (fun c2 => ?_)
    · have hk := ltN c2
      conv => whnf
      refine Need.mk (show 0 ≤ (k : Int) ∧ (k : Int) < (out.length : Nat) from ⟨by omega, by omega⟩) ?_
      conv => whnf
      refine Need.mk (show 0 ≤ (i : Int) ∧ (i : Int) < (xs.length : Nat) from ⟨by omega, by omega⟩) ?_
      conv => whnf
      refine Br.mk (fun c3 => ?_) (fun c3 => ?_)
      · have c3 : decide (nth out k 0 < nth xs i 0) = true := c3
        rw [nth_eq, nth_eq] at c3
        have c3 := of_decide_eq_true c3
        conv => whnf
        refine ⟨k + 1, [], ⟨hk, fun j hj => ?_⟩, by omega, ⟨⟨⟨rfl, wrap_succ hk hlen2⟩, trivial⟩, ⟨rfl, trivial, rfl, trivial⟩, rfl⟩, rfl⟩
        rcases Nat.lt_succ_iff_lt_or_eq.1 hj with h | rfl
        · exact h3 j h
        · exact c3
      · have c3 : decide (nth out k 0 < nth xs i 0) = false := c3
        rw [nth_eq, nth_eq] at c3
        have c3 := of_decide_eq_false c3
        have hins := ins_at (xs.getD i 0) out k (Nat.le_of_lt hk) h3 (fun _ => c3)
        conv => whnf
        refine Need.mk (by kernel_rfl) ?_
        conv => whnf
        refine Know.mk fun _ => ?_
        conv => whnf
        refine Br.mk (fun _ => ?_) (fun c => absurd hk (by have := geN c; omega))
        conv => whnf
        refine Need.mk (show 0 ≤ (k : Int) ∧ (k : Int) < (out.length : Nat) from ⟨by omega, by omega⟩) ?_
        conv => whnf
        refine Need.mk (show 0 ≤ (i : Int) ∧ (i : Int) < (xs.length : Nat) from ⟨by omega, by omega⟩) ?_
        conv => whnf
        refine Br.mk (fun c4 => ?_) (fun c4 => ?_)
        · have c4 : (nth out k 0 == nth xs i 0) = true := c4
          rw [nth_eq, nth_eq, beq_iff_eq] at c4
          rw [if_pos ⟨hk, c4⟩] at hins
          conv => whnf
          refine ⟨i + 1, [2], by omega, by omega, ⟨⟨⟨rfl, wrap_succ hi hlen⟩, ⟨rfl, rfl⟩, trivial⟩, ⟨rfl, trivial, ?_, trivial⟩, rfl⟩, rfl⟩
          show AM.Item.slc int55 out = .slc int55 (setL (xs.take (i + 1)))
          rw [hst, hins]
        · have c4 : (nth out k 0 == nth xs i 0) = false := c4
          rw [nth_eq, nth_eq, beq_eq_false_iff_ne] at c4
          rw [if_neg (fun h => c4 h.2)] at hins
          conv => whnf
          refine Need.mk (show 0 ≤ (k : Int) ∧ (k : Int) ≤ (out.length : Nat) from ⟨by omega, by omega⟩) ?_
          refine Need.mk (show 0 ≤ (0 : Int) ∧ (0 : Int) ≤ (k : Nat) from ⟨by omega, by omega⟩) ?_
          conv => whnf
          refine Cast.mk _ _ ?_
          have hT : List.take (((some (k : Int)).getD (out.length : Int)).toNat - ((none : Option Int).getD 0).toNat) (List.drop ((none : Option Int).getD 0).toNat out) = out.take k := rfl
          generalize List.take (((some (k : Int)).getD (out.length : Int)).toNat - ((none : Option Int).getD 0).toNat) (List.drop ((none : Option Int).getD 0).toNat out) = T at hT
          have hTl : T.length = k := by rw [hT, List.length_take]; omega
          conv => whnf
          refine Need.mk (show (0 + T.length) * 8 ≤ 140737488355328 from by omega) ?_
          conv => whnf

          refine Need.mk (show 0 ≤ (i : Int) ∧ (i : Int) < (xs.length : Nat) from ⟨by omega, by omega⟩) ?_
          conv => whnf

          refine Cast.mk _ _ ?_
          conv => whnf

          refine Need.mk (show (([] ++ T).length + 1) * 8 ≤ 140737488355328 from by simp; omega) ?_
          conv => whnf

          refine Need.mk (show 0 ≤ (out.length : Int) ∧ (out.length : Int) ≤ (out.length : Nat) from ⟨by omega, by omega⟩) ?_
          refine Need.mk (show 0 ≤ (k : Int) ∧ (k : Int) ≤ (out.length : Nat) from ⟨by omega, by omega⟩) ?_
          conv => whnf

          refine Cast.mk _ _ ?_
          conv => whnf

          have hT2 : List.take (((none : Option Int).getD (out.length : Int)).toNat - ((some (k : Int)).getD 0).toNat) (List.drop ((some (k : Int)).getD 0).toNat out) = out.drop k := List.take_of_length_le (by show (out.drop k).length ≤ out.length - k; simp)
          generalize List.take (((none : Option Int).getD (out.length : Int)).toNat - ((some (k : Int)).getD 0).toNat) (List.drop ((some (k : Int)).getD 0).toNat out) = T2 at hT2
          have hTl2 : T2.length = out.length - k := by rw [hT2, List.length_drop]
          conv => whnf
          refine Need.mk (show (([] ++ T ++ [nth xs (i : Int).toNat 0]).length + T2.length) * 8 ≤ 140737488355328 from by simp; omega) ?_
          conv => whnf
          refine Need.mk (by kernel_rfl) ?_
          conv => whnf
          refine ⟨i + 1, [7], by omega, by omega, ⟨⟨⟨rfl, wrap_succ hi hlen⟩, ⟨rfl, rfl⟩, trivial⟩, ⟨rfl, trivial, ?_, trivial⟩, rfl⟩, rfl⟩
          show AM.Item.slc int55 ([] ++ T ++ [nth xs (i : Int).toNat 0] ++ T2) = .slc int55 (setL (xs.take (i + 1)))
          rw [hst, hins, hT, hT2, List.nil_append, Int.toNat_natCast, nth_eq]
    · have hk := geN c2
      have hins := ins_at (xs.getD i 0) out k h2 h3 (fun h => absurd h (by omega))
      rw [if_neg (by omega)] at hins
      conv => whnf
      refine Need.mk (by kernel_rfl) ?_
      conv => whnf
      refine Know.mk fun _ => ?_
      conv => whnf
      refine Br.mk (fun c => absurd hk (by have := ltN c; omega)) (fun _ => ?_)
      conv => whnf
      refine Need.mk (show 0 ≤ (k : Int) ∧ (k : Int) ≤ (out.length : Nat) from ⟨by omega, by omega⟩) ?_
      refine Need.mk (show 0 ≤ (0 : Int) ∧ (0 : Int) ≤ (k : Nat) from ⟨by omega, by omega⟩) ?_
      conv => whnf
      refine Cast.mk _ _ ?_
      have hT : List.take (((some (k : Int)).getD (out.length : Int)).toNat - ((none : Option Int).getD 0).toNat) (List.drop ((none : Option Int).getD 0).toNat out) = out.take k := rfl
      generalize List.take (((some (k : Int)).getD (out.length : Int)).toNat - ((none : Option Int).getD 0).toNat) (List.drop ((none : Option Int).getD 0).toNat out) = T at hT
      have hTl : T.length = k := by rw [hT, List.length_take]; omega
      conv => whnf
      refine Need.mk (show (0 + T.length) * 8 ≤ 140737488355328 from by omega) ?_
      conv => whnf

      refine Need.mk (show 0 ≤ (i : Int) ∧ (i : Int) < (xs.length : Nat) from ⟨by omega, by omega⟩) ?_
      conv => whnf

      refine Cast.mk _ _ ?_
      conv => whnf

      refine Need.mk (show (([] ++ T).length + 1) * 8 ≤ 140737488355328 from by simp; omega) ?_
      conv => whnf

      refine Need.mk (show 0 ≤ (out.length : Int) ∧ (out.length : Int) ≤ (out.length : Nat) from ⟨by omega, by omega⟩) ?_
      refine Need.mk (show 0 ≤ (k : Int) ∧ (k : Int) ≤ (out.length : Nat) from ⟨by omega, by omega⟩) ?_
      conv => whnf

      refine Cast.mk _ _ ?_
      conv => whnf

      have hT2 : List.take (((none : Option Int).getD (out.length : Int)).toNat - ((some (k : Int)).getD 0).toNat) (List.drop ((some (k : Int)).getD 0).toNat out) = out.drop k := List.take_of_length_le (by show (out.drop k).length ≤ out.length - k; simp)
      generalize List.take (((none : Option Int).getD (out.length : Int)).toNat - ((some (k : Int)).getD 0).toNat) (List.drop ((some (k : Int)).getD 0).toNat out) = T2 at hT2
      have hTl2 : T2.length = out.length - k := by rw [hT2, List.length_drop]
      conv => whnf
      refine Need.mk (show (([] ++ T ++ [nth xs (i : Int).toNat 0]).length + T2.length) * 8 ≤ 140737488355328 from by simp; omega) ?_
      conv => whnf
      refine Need.mk (by kernel_rfl) ?_
      conv => whnf
      refine ⟨i + 1, [7], by omega, by omega, ⟨⟨⟨rfl, wrap_succ hi hlen⟩, ⟨rfl, rfl⟩, trivial⟩, ⟨rfl, trivial, ?_, trivial⟩, rfl⟩, rfl⟩
      show AM.Item.slc int55 ([] ++ T ++ [nth xs (i : Int).toNat 0] ++ T2) = .slc int55 (setL (xs.take (i + 1)))
      rw [hst, hins, hT, hT2, List.nil_append, Int.toNat_natCast, nth_eq]
  · have c1 := geN c1
    conv => whnf
    refine FinF.mk _ (.sc (.h 1)) [.ro int55 xs, .slc int55 (setL xs)] [2] rfl rfl rfl ⟨rfl, ?_, trivial⟩ rfl (Nat.le_succ _) ⟨rfl, rfl⟩
    show AM.Item.slc int55 out = _
    rw [← hout, List.take_of_length_le c1]
end Go.Proofs.Ytljokmmgkecjbaa

namespace Go.Proofs.Ytljokmmgkecjbaa
open Go Go.AM
noncomputable def setS (args : List AVal) (m : List AM.Item) (k : AVal → List AM.Item → Prop) : Prop := match args with
  | [.sc (.h t)] => match (nth m t .gone).row with
    | some ⟨K, xs⟩ => Cast (K1 := int55) K xs fun xs => Need (xs.length ≤ 1048576) (snocK m (.slc int55 (setL xs)) fun m' n => k (.sc (.h n)) m')
    | none => False
  | _ => False
theorem setS_ok {args : List AVal} {m : List AM.Item} {k : AVal → List AM.Item → Prop} (h : setS args m k) : TripleF Try.prog 70 args m k := by
  unfold setS at h
  split at h
  · rename_i t
    split at h
    · rename_i K xs hrow
      obtain ⟨xs, _, hlen, h⟩ := h
      rw [snocK_eq] at h
      have hg : nth m t .gone ≠ .gone := by intro e; rw [e] at hrow; cases hrow
      exact frame_add (m0 := [.ro int55 xs]) (extra := [.slc int55 (setL xs)]) (set_base xs hlen) [t] rfl rfl ⟨⟨int55, xs, hrow, rfl, rfl⟩, trivial⟩ rfl (by simp only [List.all_cons, List.all_nil, Bool.and_true, Nat.blt_eq]; exact nth_lt rfl hg) h
    · exact h.elim
  · exact h.elim
noncomputable def sp46u (f : FuncId) (args : List AVal) (m : List AM.Item) (k : AVal → List AM.Item → Prop) : Prop := match f with
  | 70 => setS args m k
  | _ => False
theorem sp46u_ok : ∀ f args m k, sp46u f args m k → TripleF Try.prog f args m k := by
  intro f args m k h
  unfold sp46u at h
  split at h
  · exact setS_ok h
  · exact h.elim
noncomputable def E50 : Eng := mkEng Try.prog kinds46b noEq noQT sp46u noQ
theorem E50_ok : E50.Ok := mkEng_ok mixedT (fun _ _ _ _ h => by cases h) sp46u_ok (fun _ _ _ _ _ h => by cases h) (fun _ _ _ _ h => by cases h)
def actU (acts : List Ac) : List Int := acts.map (·.l.u)
theorem actU_snoc {acts : List Ac} {k : Nat} (hk : k < acts.length) : actU (acts.take (k + 1)) = actU (acts.take k) ++ [(acts.getD k ac0).l.u] := by
  unfold actU
  rw [List.take_succ_eq_append_getElem hk, List.map_append, List.getD_eq_getElem?_getD, List.getElem?_eq_getElem hk]; rfl
theorem units_base (acts : List Ac) (hb : acts.length ≤ 1048576) : TripleF Try.prog 50 [.sc (.h 0)] [.ro actK acts] (fun r m' => r = .sc (.h 1) ∧ m' = [.ro actK acts, .slc int55 (setL (actU acts))]) := by
  refine triple_of_awp E50_ok Try.func50 rfl (by kernel_rfl) ?_
  conv => whnf
  refine Know.mk fun hlen => ?_
  have hlen : acts.length ≤ 9223372036854775807 := hlen
  conv => whnf
  refine LoopF.tell (.nilT 3 int55) _ _ (And.intro rfl rfl) ?_
  refine LoopF.inv Nat (fun k => k ≤ acts.length) (fun k => [(8, .sc (.int false .i64 (k : Int))), (3, .sc (.h 2))]) (fun k => acts.length - k)
    (fun k => [.ro actK acts, .gone, .slc int55 (actU (acts.take k))]) (fun _ => Nat.le_succ _) 0 [1]
    (Nat.zero_le _) ⟨⟨⟨rfl, rfl⟩, ⟨rfl, rfl⟩, trivial⟩, ⟨rfl, trivial, rfl, trivial⟩, rfl⟩ ?_
  rintro k h1
  conv => whnf
  refine Br.mk (fun c1 => ?_) (fun c1 => ?_)
  · have hk := ltN c1
    refine Need.mk (show 0 ≤ (k : Int) ∧ (k : Int) < (acts.length : Nat) from ⟨by omega, by omega⟩) ?_
    conv => whnf
    refine Cast.mk _ _ ?_
    conv => whnf
    refine Need.mk ?_ ?_
    · show ((actU (acts.take k)).length + 1) * 8 ≤ 140737488355328
      simp [actU]; omega
    refine ⟨k + 1, [5], by omega, by omega, ⟨⟨⟨rfl, wrap_succ hk hlen⟩, ⟨rfl, rfl⟩, trivial⟩, ⟨rfl, trivial, ?_, trivial⟩, rfl⟩, rfl⟩
    rw [actU_snoc hk, ← nth_eq]; rfl
  · have c1 := geN c1
    conv => whnf
    have hall : actU (acts.take k) = actU acts := by rw [List.take_of_length_le c1]
    generalize actU (acts.take k) = U at hall
    subst hall
    refine Cast.mk _ _ (Need.mk (by simp [actU]; omega) ?_)
    conv => whnf
    exact FinF.mk _ (.sc (.h 1)) [.ro actK acts, .slc int55 (setL (actU acts))] [3] rfl rfl rfl ⟨rfl, rfl, trivial⟩ rfl (Nat.le_succ _) ⟨rfl, rfl⟩
end Go.Proofs.Ytljokmmgkecjbaa

namespace Go.Proofs.Ytljokmmgkecjbaa
open Go Go.AM
/-! everybody gets what it waits for -/
noncomputable def stepR (s : List Lk × List Lk) (u : Int) : List Lk × List Lk := match s.2.any (ofB u) with
  | true => s
  | false => ((relL s.1 s.2 u).1, (relL s.1 s.2 u).2.1)
noncomputable def passR (all : List Int) (s : List Lk × List Lk) : List Lk × List Lk := all.foldl stepR s
noncomputable def roundsR (all : List Int) : Nat → List Lk × List Lk → List Lk × List Lk
  | 0, s => s
  | n + 1, s => passR all (roundsR all n s)
def pres (s : List Lk × List Lk) (u : Int) : Bool := (s.1 ++ s.2).any (ofB u)
theorem pres_iff {s : List Lk × List Lk} {u : Int} : pres s u = true ↔ ∃ x ∈ s.1 ++ s.2, x.u = u := by
  simp only [pres, List.any_eq_true, ofB, beq_iff_eq]
theorem grant_mem : ∀ (held pre post : List Lk), ∀ x, x ∈ (grantL held pre post).1 ∨ x ∈ (grantL held pre post).2.1 → x ∈ held ∨ x ∈ pre ∨ x ∈ post
  | held, pre, [], x, h => by
    rcases h with h | h
    · exact .inl h
    · exact .inr (.inl h)
  | held, pre, l :: post, x, h => by
    unfold grantL at h
    split at h
    · rcases grant_mem (held ++ [l]) pre post x h with h | h | h
      · rcases List.mem_append.1 h with h | h
        · exact .inl h
        · simp at h; subst h; exact .inr (.inr (by simp))
      · exact .inr (.inl h)
      · exact .inr (.inr (by simp [h]))
    · rcases grant_mem held (pre ++ [l]) post x h with h | h | h
      · exact .inl h
      · rcases List.mem_append.1 h with h | h
        · exact .inr (.inl h)
        · simp at h; subst h; exact .inr (.inr (by simp))
      · exact .inr (.inr (by simp [h]))
theorem rel_mem {held queue : List Lk} {u : Int} {x : Lk} (h : x ∈ (relL held queue u).1 ∨ x ∈ (relL held queue u).2.1) : x ∈ held ++ queue ∧ x.u ≠ u := by
  rcases grant_mem _ _ _ x h with h | h | h
  · have := List.mem_filter.1 h
    exact ⟨by simp [this.1], by simpa [notB, ofB] using this.2⟩
  · cases h
  · have := List.mem_filter.1 h
    exact ⟨by simp [this.1], by simpa [notB, ofB] using this.2⟩
theorem step_pres {s : List Lk × List Lk} {u v : Int} (h : pres (stepR s u) v = true) : pres s v = true := by
  unfold stepR at h
  split at h
  · exact h
  · obtain ⟨x, hx, rfl⟩ := pres_iff.1 h
    exact pres_iff.2 ⟨x, (rel_mem (List.mem_append.1 hx)).1, rfl⟩
theorem step_gone {s : List Lk × List Lk} {u : Int} (h : s.2.any (ofB u) = false) : pres (stepR s u) u = false := by
  cases hp : pres (stepR s u) u with
  | false => rfl
  | true =>
    unfold stepR at hp
    rw [h] at hp
    obtain ⟨x, hx, hxu⟩ := pres_iff.1 hp
    exact absurd hxu (rel_mem (List.mem_append.1 hx)).2
theorem step_wait {s : List Lk × List Lk} {u v : Int} (h : s.2.any (ofB v) = false) : (stepR s u).2.any (ofB v) = false := by
  unfold stepR
  split
  · exact h
  · rw [List.any_eq_false] at h ⊢
    intro x hx
    have := grant_sub _ _ _ x hx
    rw [List.nil_append] at this
    exact h x (List.mem_filter.1 this).1
theorem step_good {s : List Lk × List Lk} {u : Int} (h : Good s.1 s.2) : Good (stepR s u).1 (stepR s u).2 := by
  unfold stepR
  split
  · exact h
  · exact rel_good u h
theorem pass_good : ∀ (all : List Int) (s : List Lk × List Lk), Good s.1 s.2 → Good (passR all s).1 (passR all s).2
  | [], _, h => h
  | u :: all, s, h => pass_good all _ (step_good (u := u) h)
theorem pass_pres : ∀ (all : List Int) {s : List Lk × List Lk} {v : Int}, pres (passR all s) v = true → pres s v = true
  | [], _, _, h => h
  | u :: all, s, v, h => step_pres (pass_pres all (s := stepR s u) h)
theorem pass_gone : ∀ (all : List Int) {s : List Lk × List Lk} {v : Int}, v ∈ all → s.2.any (ofB v) = false → pres (passR all s) v = false
  | u :: all, s, v, hv, h => by
    by_cases huv : u = v
    · subst huv
      cases hp : pres (passR (u :: all) s) u with
      | false => rfl
      | true =>
        have := pass_pres all (s := stepR s u) hp
        rw [step_gone h] at this; cases this
    · exact pass_gone all (s := stepR s u) (by simpa [Ne.symm huv] using hv) (step_wait h)
open Classical in
/-- where each of finitely many has a follower among them there is a ring -/
theorem ring_of {E : Int → Int → Prop} : ∀ (n : Nat) (U : List Int), U.length ≤ n → (∃ a, a ∈ U) → (∀ a ∈ U, ∃ b ∈ U, E a b) → ¬ Acyc E
  | 0, U, hn, ⟨a, ha⟩, _, _ => by
    have : U = [] := List.eq_nil_of_length_eq_zero (by omega)
    subst this; cases ha
  | n + 1, U, hn, ⟨a, ha⟩, hU, hac => by
    have hna : ¬ Path E a a := hac a
    refine ring_of n (U.filter fun b => decide (Path E a b)) ?_ ?_ ?_ hac
    · have : (U.filter fun b => decide (Path E a b)).length < U.length := by
        refine List.length_filter_lt_length_iff_exists.2 ⟨a, ha, by simpa using hna⟩
      omega
    · obtain ⟨b, hb, he⟩ := hU a ha
      exact ⟨b, List.mem_filter.2 ⟨hb, by simpa using Path.one he⟩⟩
    · intro b hb
      have hb' := List.mem_filter.1 hb
      obtain ⟨c, hc, he⟩ := hU b hb'.1
      have hab : Path E a b := by simpa using hb'.2
      exact ⟨c, List.mem_filter.2 ⟨hc, by simpa using hab.trans (.one he)⟩, he⟩
theorem any_split {queue : List Lk} {u : Int} (h : queue.any (ofB u) = true) : ∃ p l t, queue = p ++ l :: t ∧ l.u = u := by
  obtain ⟨l, hl, hu⟩ := List.any_eq_true.1 h
  obtain ⟨p, t, rfl⟩ := List.append_of_mem hl
  exact ⟨p, l, t, rfl, by simpa [ofB] using hu⟩
theorem some_free {s : List Lk × List Lk} (h : Good s.1 s.2) {v : Int} (hv : pres s v = true) : ∃ u, pres s u = true ∧ s.2.any (ofB u) = false := by
  refine Classical.byContradiction fun hno => ?_
  have hall : ∀ u, pres s u = true → s.2.any (ofB u) = true := fun u hu => by
    cases hq : s.2.any (ofB u) with
    | true => rfl
    | false => exact (hno ⟨u, hu, hq⟩).elim
  refine ring_of (E := Eg s.1 s.2) _ ((s.1 ++ s.2).map (·.u)) (Nat.le_refl _) ?_ ?_ h.ac'
  · obtain ⟨x, hx, rfl⟩ := pres_iff.1 hv
    exact ⟨x.u, List.mem_map.2 ⟨x, hx, rfl⟩⟩
  · intro a ha
    obtain ⟨x, hx, rfl⟩ := List.mem_map.1 ha
    obtain ⟨p, l, t, hq, hu⟩ := any_split (hall x.u (pres_iff.2 ⟨x, hx, rfl⟩))
    obtain ⟨k, hk⟩ := h.bl p l t hq
    refine ⟨k, ?_, p, l, t, hq, hu, hk⟩
    exact blk_units (queue := s.2) (fun y hy => by rw [hq]; simp [hy]) hk
noncomputable def cntP (all : List Int) (s : List Lk × List Lk) : Nat := (all.filter (pres s)).length
theorem cnt_le {all : List Int} {s s' : List Lk × List Lk} (h : ∀ v, pres s' v = true → pres s v = true) : cntP all s' ≤ cntP all s := by
  unfold cntP
  induction all with
  | nil => simp
  | cons u U ih =>
    simp only [List.filter_cons]
    cases h1 : pres s' u with
    | true => simp [h u h1, ih]
    | false => cases h2 : pres s u <;> simp <;> omega
theorem cnt_lt {all : List Int} {s s' : List Lk × List Lk} (h : ∀ v, pres s' v = true → pres s v = true) {u : Int} (hu : u ∈ all) (h1 : pres s u = true) (h2 : pres s' u = false) : cntP all s' < cntP all s := by
  induction all with
  | nil => cases hu
  | cons w U ih =>
    have hle := cnt_le (all := U) h
    unfold cntP at ih hle ⊢
    simp only [List.filter_cons]
    by_cases hw : w = u
    · subst hw
      rw [h1, h2]; simp; omega
    · have := ih (by simpa [Ne.symm hw] using hu)
      cases h3 : pres s' w with
      | true => simp [h w h3, this]
      | false => cases h4 : pres s w <;> simp <;> omega
theorem rounds_good (all : List Int) : ∀ n (s : List Lk × List Lk), Good s.1 s.2 → Good (roundsR all n s).1 (roundsR all n s).2
  | 0, _, h => h
  | n + 1, s, h => pass_good all _ (rounds_good all n s h)
theorem rounds_pres (all : List Int) : ∀ n {s : List Lk × List Lk} {v : Int}, pres (roundsR all n s) v = true → pres s v = true
  | 0, _, _, h => h
  | n + 1, s, v, h => rounds_pres all n (pass_pres all h)
theorem rounds_cnt (all : List Int) {s : List Lk × List Lk} (hg : Good s.1 s.2) (hin : ∀ v, pres s v = true → v ∈ all) : ∀ n, cntP all (roundsR all n s) ≤ all.length - n
  | 0 => List.length_filter_le _ _
  | n + 1 => by
    have ih := rounds_cnt all hg hin n
    by_cases hz : cntP all (roundsR all n s) = 0
    · have := cnt_le (all := all) (s := roundsR all n s) (s' := roundsR all (n + 1) s) (fun v => pass_pres all)
      omega
    · have hex : ∃ v, v ∈ all.filter (pres (roundsR all n s)) := by
        cases hl : all.filter (pres (roundsR all n s)) with
        | nil => exact (hz (by unfold cntP; rw [hl]; rfl)).elim
        | cons v _ => exact ⟨v, by simp⟩
      obtain ⟨v, hv⟩ := hex
      obtain ⟨u, hu, hq⟩ := some_free (rounds_good all n s hg) (List.mem_filter.1 hv).2
      have hua : u ∈ all := hin u (rounds_pres all n hu)
      have := cnt_lt (all := all) (s := roundsR all n s) (s' := roundsR all (n + 1) s) (fun v => pass_pres all) hua hu (pass_gone all hua hq)
      omega
theorem rounds_end {all : List Int} {s : List Lk × List Lk} (hg : Good s.1 s.2) (hin : ∀ v, pres s v = true → v ∈ all) : (roundsR all all.length s).1 ++ (roundsR all all.length s).2 = [] := by
  have h := rounds_cnt all hg hin all.length
  rw [Nat.sub_self] at h
  cases hl : (roundsR all all.length s).1 ++ (roundsR all all.length s).2 with
  | nil => rfl
  | cons x t =>
    have hp : pres (roundsR all all.length s) x.u = true := pres_iff.2 ⟨x, by rw [hl]; simp, rfl⟩
    have hm : x.u ∈ all.filter (pres (roundsR all all.length s)) := List.mem_filter.2 ⟨hin _ (rounds_pres all _ hp), hp⟩
    have : 0 < cntP all (roundsR all all.length s) := List.length_pos_of_mem hm
    omega
/-- the locks of acts are of the acts' units -/
theorem ask_mem {held queue : List Lk} {l x : Lk} (h : x ∈ (askL held queue l).2.1 ∨ x ∈ (askL held queue l).2.2) : x ∈ held ++ queue ∨ x = l := by
  unfold askL at h
  split at h
  · rcases h with h | h
    · rcases List.mem_append.1 h with h | h
      · exact .inl (by simp [h])
      · simp at h; exact .inr h
    · exact .inl (by simp [h])
  · split at h
    · exact .inl (by rcases h with h | h <;> simp [h])
    · rcases h with h | h
      · exact .inl (by simp [h])
      · rcases List.mem_append.1 h with h | h
        · exact .inl (by simp [h])
        · simp at h; exact .inr h
theorem cancel_mem {held queue : List Lk} {u : Int} {x : Lk} (h : x ∈ (grantL held [] (queue.filter (notB u))).1 ∨ x ∈ (grantL held [] (queue.filter (notB u))).2.1) : x ∈ held ++ queue := by
  rcases grant_mem _ _ _ x h with h | h | h
  · simp [h]
  · cases h
  · have := List.mem_filter.1 h
    simp [this.1]
theorem req_mem {held queue : List Lk} {l x : Lk} (h : x ∈ (reqL held queue l).2.1 ∨ x ∈ (reqL held queue l).2.2) : x ∈ held ++ queue ∨ x = l := by
  unfold reqL at h
  split at h
  · exact .inl (by rcases h with h | h <;> simp [h])
  · split at h
    · exact .inl (by rcases h with h | h <;> simp [h])
    · split at h
      · exact ask_mem h
      · split at h
        · exact .inl (by rcases h with h | h <;> simp [h])
        · rcases ask_mem h with h | h
          · exact .inl (cancel_mem (List.mem_append.1 h))
          · exact .inr h
theorem do_mem {held queue : List Lk} {a : Ac} {x : Lk} (h : x ∈ (doL held queue a).held ∨ x ∈ (doL held queue a).queue) : x ∈ held ++ queue ∨ x = a.l := by
  unfold doL at h
  split at h
  · exact .inl (cancel_mem h)
  · split at h
    · exact .inl (rel_mem h).1
    · exact req_mem h
theorem playF_mem : ∀ (acts : List Ac) (s : List Lk × List Lk) (x : Lk), x ∈ (playF acts s).1 ∨ x ∈ (playF acts s).2 → x ∈ s.1 ++ s.2 ∨ ∃ a ∈ acts, x = a.l
  | [], s, x, h => .inl (List.mem_append.2 h)
  | a :: acts, s, x, h => by
    rcases playF_mem acts _ x h with h | ⟨b, hb, h⟩
    · rcases do_mem (List.mem_append.1 h) with h | h
      · exact .inl h
      · exact .inr ⟨a, by simp, h⟩
    · exact .inr ⟨b, by simp [hb], h⟩
theorem ins_mem (x y : Int) : ∀ out : List Int, y ∈ insL x out ↔ y = x ∨ y ∈ out
  | [] => by simp [insL]
  | z :: out => by
    have ih := ins_mem x y out
    simp only [insL]
    split
    · simp only [List.mem_cons, ih]
      constructor
      · rintro (h | h | h)
        · exact .inr (.inl h)
        · exact .inl h
        · exact .inr (.inr h)
      · rintro (h | h | h)
        · exact .inr (.inl h)
        · exact .inl h
        · exact .inr (.inr h)
    · split
      · rename_i e
        subst e
        simp
      · simp
theorem setF_mem (y : Int) : ∀ (xs out : List Int), y ∈ xs.foldl (fun out x => insL x out) out ↔ y ∈ out ∨ y ∈ xs
  | [], out => by simp
  | x :: xs, out => by
    rw [List.foldl_cons, setF_mem y xs, ins_mem]
    simp only [List.mem_cons]
    constructor
    · rintro ((h | h) | h)
      · exact .inr (.inl h)
      · exact .inl h
      · exact .inr (.inr h)
    · rintro (h | h | h)
      · exact .inl (.inr h)
      · exact .inl (.inl h)
      · exact .inr h
theorem set_mem (y : Int) (xs : List Int) : y ∈ setL xs ↔ y ∈ xs := by
  unfold setL; rw [setF_mem]; simp
theorem play_in (acts : List Ac) (v : Int) (h : pres (playL acts) v = true) : v ∈ setL (actU acts) := by
  obtain ⟨x, hx, rfl⟩ := pres_iff.1 h
  rw [set_mem]
  rcases playF_mem acts ([], []) x (List.mem_append.1 hx) with h | ⟨a, ha, rfl⟩
  · simp at h
  · exact List.mem_map.2 ⟨a, ha, rfl⟩
theorem ends_law (acts : List Ac) : (roundsR (setL (actU acts)) (setL (actU acts)).length (playL acts)).1 ++ (roundsR (setL (actU acts)) (setL (actU acts)).length (playL acts)).2 = [] :=
  rounds_end (play_good acts) (play_in acts)
end Go.Proofs.Ytljokmmgkecjbaa
