/-
  Walks of layer 31: units in memory; copies of them; modes at a level (mode.at, New, Safe, Recover, and the specification's).
-/
import Derived.Test.YtgfmnolghbiedaaDoorK32
namespace Go.Proofs.YtgfmnolghbiedaaDoor
open Go.RowKit Go.Shelf

/-- units: the copy in use, the number of copies -/
abbrev UL := List (Int × Int)
def uc (l : UL) : List Value := l.flatMap fun a => [.int .i64 a.1, .int .i64 a.2]
theorem uc_len (l : UL) : (uc l).length = l.length * 2 := by
  induction l with
  | nil => rfl
  | cons a t ih => simp only [uc, List.flatMap_cons, List.length_append, List.length_cons, List.length_nil] at *; omega
theorem uc_append (l m : UL) : uc (l ++ m) = uc l ++ uc m := by simp [uc]
theorem uc_at (l : UL) : ∀ k (hk : k < l.length), (uc l)[k * 2]? = some (.int .i64 l[k].1) ∧ (uc l)[k * 2 + 1]? = some (.int .i64 l[k].2) := by
  induction l with
  | nil => intro k hk; simp at hk
  | cons a t ih =>
    intro k hk
    cases k with
    | zero => simp [uc]
    | succ k =>
      have := ih k (by simpa using hk)
      simp only [uc, List.flatMap_cons] at *
      rw [show (k + 1) * 2 = (k * 2) + 1 + 1 by omega]
      simpa using this
theorem uc_get (l : UL) (j : Nat) (u : Value) (h : (uc l)[j]? = some u) : ∃ k, ∃ hk : k < l.length, (j = k * 2 ∧ u = .int .i64 l[k].1) ∨ (j = k * 2 + 1 ∧ u = .int .i64 l[k].2) := by
  have hj : j < l.length * 2 := by
    have := (List.getElem?_eq_some_iff.1 h).1
    rwa [uc_len] at this
  obtain ⟨e1, e2⟩ := uc_at l (j / 2) (by omega)
  refine ⟨j / 2, by omega, ?_⟩
  rcases Nat.mod_two_eq_zero_or_one j with hm | hm
  · left
    rw [show j / 2 * 2 = j by omega] at e1
    exact ⟨by omega, by rw [e1] at h; injection h with h; exact h.symm⟩
  · right
    rw [show j / 2 * 2 + 1 = j by omega] at e2
    exact ⟨by omega, by rw [e2] at h; injection h with h; exact h.symm⟩
theorem one_uc (l : UL) : ∀ q ∈ uc l, q.oneCell' = true := by
  intro q hq
  simp only [uc, List.mem_flatMap, List.mem_cons, List.mem_nil_iff, or_false] at hq
  obtain ⟨a, _, rfl | rfl⟩ := hq <;> rfl
/-- the slice v holds the units l, below block B -/
structure US (w : World) (B : Nat) (v : Value) (l : UL) : Prop where
  out : (v = .slice none 0 0 ∧ l = []) ∨ ∃ a c, v = .slice (some a) l.length c ∧ ∀ k (hk : k < l.length), ∃ b off, a = ⟨b, off, none⟩ ∧ b < B ∧ w.cell? ⟨b, off + k * 2, none⟩ = some (.int .i64 l[k].1) ∧ w.cell? ⟨b, off + k * 2 + 1, none⟩ = some (.int .i64 l[k].2)
theorem US.below {w w' : World} {B : Nat} {v : Value} {l : UL} (h : US w B v l) (hb : Below B w w') : US w' B v l := by
  rcases h.out with h | ⟨a, c, e, h⟩
  · exact ⟨.inl h⟩
  · refine ⟨.inr ⟨a, c, e, fun k hk => ?_⟩⟩
    obtain ⟨b, off, e1, e2, e3, e4⟩ := h k hk
    exact ⟨b, off, e1, e2, (hb.cell (p := ⟨b, _, none⟩) e2).trans e3, (hb.cell (p := ⟨b, _, none⟩) e2).trans e4⟩
theorem US.more {w : World} {B B' : Nat} {v : Value} {l : UL} (h : US w B v l) (hB : B ≤ B') : US w B' v l := by
  rcases h.out with h | ⟨a, c, e, h⟩
  · exact ⟨.inl h⟩
  · refine ⟨.inr ⟨a, c, e, fun k hk => ?_⟩⟩
    obtain ⟨b, off, e1, e2, e3⟩ := h k hk
    exact ⟨b, off, e1, by omega, e3⟩
theorem US.from {w w' : World} {v : Value} {l : UL} (h : US w w.heap.size v l) (hb : From w w') : US w' w'.heap.size v l := (h.below hb).more (Below.size hb)
theorem US.form {w : World} {B : Nat} {v : Value} {l : UL} (h : US w B v l) : ∃ A c, v = .slice A l.length c := by
  rcases h.out with ⟨rfl, rfl⟩ | ⟨a, c, rfl, h⟩
  · exact ⟨_, _, rfl⟩
  · exact ⟨_, _, rfl⟩
theorem US.at_ {w : World} {B c n : Nat} {A : Option Addr} {l : UL} (h : US w B (.slice A n c) l) {k : Nat} (hk : k < l.length) : ∃ b off, A = some ⟨b, off, none⟩ ∧ b < B ∧ w.cell? ⟨b, off + k * 2, none⟩ = some (.int .i64 l[k].1) ∧ w.cell? ⟨b, off + k * 2 + 1, none⟩ = some (.int .i64 l[k].2) := by
  rcases h.out with ⟨_, rfl⟩ | ⟨a, c, e, h⟩
  · simp at hk
  · injection e with e1 _ _
    obtain ⟨b, off, e2, e3⟩ := h k hk
    exact ⟨b, off, by rw [e1, e2], e3⟩
theorem us_of_own {w : World} {base n : Nat} {v : Value} {l : UL} (h : w.ownsRow base 44 2 v n (uc l)) : US w w.heap.size v l := by
  have hn : l.length = n := by have := h.1; rw [uc_len] at this; omega
  subst hn
  rcases h.2 with ⟨rfl, h0⟩ | ⟨g, cap, cur, rfl, hg, hh, _⟩
  · exact ⟨.inl ⟨rfl, List.eq_nil_of_length_eq_zero h0⟩⟩
  · refine ⟨.inr ⟨⟨g, 0, none⟩, cap, rfl, fun k hk => ⟨g, 0, rfl, (Array.getElem?_eq_some_iff.1 hh).1, ?_, ?_⟩⟩⟩
    · have c1 := h.cells (g := g) rfl _ _ (uc_at l k hk).1
      rw [← c1]; unfold Addr.add
      split
      · rename_i h0; rw [h0]
      · rfl
    · have c1 := h.cells (g := g) rfl _ _ (uc_at l k hk).2
      rw [← c1]; unfold Addr.add
      split
      · rename_i h0; omega
      · simp
/-- append of units, wherever they lie, to a row of one's own -/
theorem append_us {P : Program} {w : World} {ops : Array Oper} {rest : List Oper} {o : Oper} {a : Act} {Q : Exit → Act → World → Prop} (hgd : o.guard = none) (s x : Operand) (t : TypeId)
    (ho : o.op = .call { callee := .builtin .append, args := #[s, x], argTypes := #[t, t] })
    (base : Nat) (e : TypeId) (i : TypeInfo) (z : Value) (bytes : Nat) (ht : P.underlying t = some (.slice e)) (hi : P.info? e = some i) (hz : i.zero = some z)
    (hsize : i.size = 2) (hby : i.bytes = bytes) (hzs : z.cells.size = 2)
    (v : Value) (n : Nat) (xs : List Value) (hs : a.eval s = v) (hown : w.ownsRow base e 2 v n xs)
    (B : Nat) (u : Value) (ys : UL) (hx : a.eval x = u) (hsrc : US w B u ys)
    (h63 : n + ys.length ≤ maxLen) (hbytes : (n + ys.length) * bytes ≤ 140737488355328) (hbase : base ≤ w.heap.size)
    (h : ∀ v' w', w'.ownsRow base e 2 v' (n + ys.length) (xs ++ uc ys) → w.grownBy w' v.ownBlock → wpList P ops Q rest (a.put o.dst v') w') : wpList P ops Q (o :: rest) a w := by
  rcases hsrc.out with ⟨hu, rfl⟩ | ⟨a0, c, hu, hc⟩
  · refine wpList_append_own_none hgd s x t ho base e i 2 ht hi v n xs hs hown (hx.trans hu) (h v w ?_ (World.grownBy.refl w _))
    simpa [uc] using hown
  · refine wpList_append_own w hgd s x t ho base e i z 2 bytes ht hi hz hsize hby hzs (by decide) v n xs hs hown a0 ys.length c (uc ys) (hx.trans hu) (uc_len ys) ?_ (one_uc _) h63 hbytes hbase fun v' w' k1 k2 _ => h v' w' k1 k2
    intro j u hj
    obtain ⟨k, hk, hcase⟩ := uc_get ys j u hj
    obtain ⟨b, off, rfl, hb, c1, c2⟩ := hc k hk
    rw [show (⟨b, off, none⟩ : Addr).add j = ⟨b, off + j, none⟩ from Addr.add_mid b off j]
    rcases hcase with ⟨rfl, rfl⟩ | ⟨rfl, rfl⟩
    · exact c1
    · exact c2
/-- what a copy of units answers -/
def UnPost (w : World) (l : UL) (e : Ending) (w' : World) : Prop := ∃ A c, e = .returned (.slice A l.length c) ∧ w'.ownsRow w.heap.size 44 2 (.slice A l.length c) l.length (uc l) ∧ From w w'
theorem Tryd.infoUnit : Tryd.prog.info? 44 = some (Tryd.prog.info? 44).get! := by kernel_rfl
theorem unit_info : ∃ i0 : TypeInfo, Tryd.prog.info? 44 = some i0 ∧ i0.zero = some (.agg #[.int .i64 0, .int .i64 0]) ∧ i0.size = 2 ∧ i0.bytes = 16 := ⟨_, rfl, by kernel_rfl, by kernel_rfl, by kernel_rfl⟩
theorem cloneU_calls (v : Value) (l : UL) (w : World) (h : US w w.heap.size v l) (hm : l.length ≤ 8796093022208) :
    Calls Tryd.prog 48 #[v] w (UnPost w l) := by
  obtain ⟨i0, hi, hz0, hz1, hz2⟩ := unit_info
  rcases h.out with ⟨rfl, rfl⟩ | ⟨a0, c, rfl, hc⟩
  · have hnil : ∀ W, (binOp .eql 22 (.slice none 0 0) (.slice none 0 0)).run Tryd.prog W = .ok (.bool true) W := fun W => Lib.run_eql_slice_nil_nil W _ _ Tryd.underlying22
    go_enter Tryd.func48, Tryd.ntmps48
    go_wp2
    go_ret
    exact ⟨none, 0, rfl, World.ownsRow_nil _ _ _ _, Below.refl _ _⟩
  · have H := bx h
    clear hc h
    have hnil : ∀ W, (binOp .eql 22 (.slice (some a0) l.length c) (.slice none 0 0)).run Tryd.prog W = .ok (.bool false) W := fun W => Lib.run_eql_slice_some_nil W _ _ _ Tryd.underlying22
    have hb1 : From w (w.alloc (.cells #[] 44)) := From.alloc (Below.refl _ _) _
    go_enter Tryd.func48, Tryd.ntmps48
    go_wp2_with (at_builtin; refine append_us rfl _ _ 22 rfl w.heap.size 44 i0 _ 16 Tryd.underlying22 hi hz0 hz1 hz2 rfl (.slice (some ⟨w.heap.size, 0, none⟩) 0 0) 0 [] rfl (owns_empty w _ (Nat.le_refl _) _ _) _ _ l rfl (H.out.from hb1) (by unfold maxLen; omega) (by omega) (by simp) ?_; intro v2 w2 o2 g2)
    obtain ⟨A2, c2, rfl⟩ := slice_form o2
    go_ret
    have hb : From w w2 := Below.grown hb1 g2 (by simp) (fun k hk => by simp [Value.ownBlock] at hk; omega)
    simp only [Nat.zero_add, List.nil_append] at o2
    exact ⟨A2, c2, ret_slice (by simp), o2, hb⟩
theorem copied_calls (v : Value) (l : UL) (w : World) (h : US w w.heap.size v l) (hm : l.length ≤ 8796093022208) :
    Calls Tryd.prog 37 #[v] w (UnPost w l) := by
  obtain ⟨i0, hi, hz0, hz1, hz2⟩ := unit_info
  obtain ⟨A, c, rfl⟩ := h.form
  have H := bx h
  clear h
  go_enter Tryd.func37, Tryd.ntmps37
  go_wp2_with (at_builtin; refine append_us rfl _ _ 22 rfl w.heap.size 44 i0 _ 16 Tryd.underlying22 hi hz0 hz1 hz2 rfl (.slice none 0 0) 0 [] rfl (World.ownsRow_nil _ _ _ _) _ _ l rfl H.out (by unfold maxLen; omega) (by omega) (Nat.le_refl _) ?_; intro v2 w2 o2 g2)
  obtain ⟨A2, c2, rfl⟩ := slice_form o2
  go_ret
  have hb : From w w2 := Below.grown (Below.refl _ _) g2 (Nat.le_refl _) (fun k hk => by simp [Value.ownBlock] at hk)
  simp only [Nat.zero_add, List.nil_append] at o2
  exact ⟨A2, c2, ret_slice (by simp), o2, hb⟩
end Go.Proofs.YtgfmnolghbiedaaDoor
