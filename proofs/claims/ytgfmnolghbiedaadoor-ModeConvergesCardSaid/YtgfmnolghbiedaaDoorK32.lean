/-
  append of numbers onto a slice without room, at a step of a region that draws its order; a cut behind a region.
-/
import Derived.Test.YtgfmnolghbiedaaDoorK31
import Derived.Deep.Upon
namespace Go.Proofs.YtgfmnolghbiedaaDoor
open Go.RowKit

theorem least_getD_len {sh : List (List Int)} {s c a : List Int} (h : (leastOf sh s c).getD [] = a) : a.length ≤ sh.length := by
  cases hl : leastOf sh s c with
  | none => rw [hl] at h; subst h; simp
  | some x =>
    rw [hl] at h
    obtain rfl : x = a := h
    exact (least_ex hl).2
theorem least_getD {sh : List (List Int)} {s c a : List Int} (h : (leastOf sh s c).getD [] = a) (hb : (leastOf sh s c).isSome = true) : leastOf sh s c = some a := by
  cases hl : leastOf sh s c with
  | none => rw [hl] at hb; cases hb
  | some x => rw [hl] at h; exact congrArg some h
theorem more_one {sh : List (List Int)} {s c m o a2 a : List Int} {b b2 : Bool} (h2 : (leastOf sh (s ++ m) (c ++ o)).isSome = b2) (ha2 : (leastOf sh (s ++ m) (c ++ o)).getD [] = a2)
    (h1 : (leastOf sh s c).isSome = b) (ha : (leastOf sh s c).getD [] = a) : b2 = true → b = true ∧ a.length ≤ a2.length ∧ expl sh a2 s c = true := by
  rintro rfl
  obtain ⟨⟨a', h, hl⟩, he⟩ := more_least (least_getD ha2 h2)
  rw [h] at h1 ha
  obtain rfl : a' = a := ha
  exact ⟨h1.symm, hl, he⟩
theorem more_two {sh : List (List Int)} {s c m a x : List Int} {b b3 : Bool} (h1 : (leastOf sh s c).isSome = b) (ha : (leastOf sh s c).getD [] = a)
    (h3 : (leastOf sh m c).isSome = b3) (ha3 : (leastOf sh m c).getD [] = x) : b = true → b3 = true → expl sh (a ++ x) (s ++ m) c = true := by
  rintro rfl rfl
  exact both_expl (least_getD ha h1) (least_getD ha3 h3)
/-- a cut behind a piece of code: what is known there -/
theorem region_cut {P : Program} {c : Code} {K : Act → World → Prop} {Q : Exit → Act → World → Prop} {a : Act} {w : World} (R : Act → Act → World → Prop)
    (h : ∀ K' : Act → World → Prop, Bx (∀ a' w', R a a' w' → K' a' w') → Code.wp P c (Exit.then K' Q) a w) (hR : ∀ a' w', R a a' w' → K a' w') : Code.wp P c (Exit.then K Q) a w :=
  Code.wp_mono (fun e a' w' he => by cases e <;> first | exact hR _ _ he | exact he) (h (R a) ⟨fun _ _ h => h⟩)
/-- slots that are written one behind the other -/
def puts (a : Act) : List (Nat × Value) → Act
  | [] => a
  | (d, v) :: r => puts (a.put (some d) v) r
/-- a slice without room, or a row of one's own -/
def ZRow (base : Nat) (e : TypeId) (W : World) (v : Value) (xs : List Int) : Prop := (xs = [] ∧ ∃ r, v = .slice (some ⟨r, 0, none⟩) 0 0) ∨ W.ownsRow base e 1 v xs.length (ic xs)
theorem ZRow.form {base : Nat} {e : TypeId} {W : World} {v : Value} {xs : List Int} (h : ZRow base e W v xs) : ∃ A c, v = .slice A xs.length c := by
  rcases h with ⟨rfl, A, rfl⟩ | h
  · exact ⟨_, _, rfl⟩
  · rcases h.2 with ⟨rfl, h0⟩ | ⟨g, cap, cur, rfl, _⟩
    · rw [h0]; exact ⟨_, _, rfl⟩
    · exact ⟨_, _, rfl⟩
theorem ZRow.from {base : Nat} {e : TypeId} {W W' : World} {v : Value} {xs : List Int} (h : ZRow base e W v xs) (hb : From W W') : ZRow base e W' v xs := by
  rcases h with h | h
  · exact .inl h
  · exact .inr (own_from h hb)
theorem ZRow.src {base : Nat} {W : World} {v : Value} {xs : List Int} (h : ZRow base 3 W v xs) : Src W W.heap.size v xs := by
  rcases h with ⟨rfl, r, rfl⟩ | h
  · exact ⟨.inr ⟨r, 0, 0, rfl, fun k hk => absurd hk (by simp)⟩⟩
  · exact src_of_own h
theorem src_kit {P : Program} {w : World} {t e : TypeId} (ht : P.underlying t = some (.slice e)) {B : Nat} {u : Value} {ys : List Int} (h : Src w B u ys) : Go.Src P 1 t u ys.length (ic ys) w := by
  rcases h.out with ⟨rfl, rfl⟩ | ⟨b, off, c, rfl, hc⟩
  · exact Go.Src.ofNil w ht 0
  · refine Go.Src.ofSlice w ht ⟨b, off, none⟩ ys.length c (ic ys) (by simp [ic]) (fun j u hj => ?_) (ic_one _)
    have hjl : j < ys.length := by
      have := (List.getElem?_eq_some_iff.1 hj).1
      simpa [ic] using this
    have e1 := (hc j hjl).2
    rw [show (⟨b, off, none⟩ : Addr).add j = ⟨b, off + j, none⟩ from Addr.add_mid b off j, e1]
    simpa [ic, hjl] using hj
/-- append(x, y...), x without room or a row of one's own, y wherever it lies -/
theorem run_append_z {P : Program} {w : World} (t ty : TypeId) (base : Nat) (e : TypeId) (i : TypeInfo) (z : Value) (bytes : Nat) (ht : P.underlying t = some (.slice e)) (hi : P.info? e = some i) (hz : i.zero = some z)
    (hsize : i.size = 1) (hby : i.bytes = bytes) (hzs : z.cells.size = 1)
    (v : Value) (xs : List Int) (hown : ZRow base e w v xs) (B : Nat) (u : Value) (ys : List Int) (hsrc : Src w B u ys)
    (h63 : xs.length + ys.length ≤ maxLen) (hbytes : (xs.length + ys.length) * bytes ≤ 140737488355328) (hbase : base ≤ w.heap.size) :
    ∃ v' w', (Builtin.append_ #[t, t] ty #[v, u]).run P w = .ok v' w' ∧ ZRow base e w' v' (xs ++ ys) ∧ Below base w w' := by
  rcases hown with ⟨rfl, r, rfl⟩ | hown
  · cases ys with
    | nil =>
      have hk := src_kit ht hsrc
      rw [← hsize] at hk
      exact ⟨_, w, run_append_nothing w t t ty e i ht hi (some ⟨r, 0, none⟩) 0 0 (Nat.le_refl _) u hk, .inl ⟨rfl, r, rfl⟩, Below.refl _ _⟩
    | cons y ys =>
      have hk := src_kit ht hsrc
      rw [← hsize] at hk
      have h0 : (y :: ys).length ≠ 0 := by simp
      have hl0 : ([] : List Int).length + (y :: ys).length = (y :: ys).length := by simp
      rw [hl0] at h63 hbytes
      have eq : (Builtin.append_ #[t, t] ty #[.slice (some ⟨r, 0, none⟩) 0 0, u]).run P w = (Builtin.append_ #[t, t] ty #[.slice none 0 0, u]).run P w := by
        rw [run_append_grow_src w t t ty e i z ht hi hz (some ⟨r, 0, none⟩) 0 0 [] (run_firstCells_some w.drew i.size 0 ⟨r, 0, none⟩ 0 0 [] (by simp) (by intro j v hj; simp at hj)) u _ _ hk (by omega) (by unfold maxLen at h63; omega) (growslice_fits (by omega) (by rw [hby, Nat.zero_add]; exact hbytes)),
          run_append_grow_src w t t ty e i z ht hi hz none 0 0 [] (run_firstCells_none w.drew i.size 0 0 0) u _ _ hk (by omega) (by unfold maxLen at h63; omega) (growslice_fits (by omega) (by rw [hby, Nat.zero_add]; exact hbytes))]
      obtain ⟨v', w', hr, h2, h3⟩ := run_append_src (P := P) (w := w) t ty base e i z bytes ht hi hz hsize hby hzs (.slice none 0 0) 0 [] (World.ownsRow_nil _ _ _ _) B u (y :: ys) hsrc (by omega) (by simpa using hbytes) hbase
      refine ⟨v', w', eq.trans hr, .inr ?_, Below.grown (Below.refl _ _) h3 hbase (fun g hg => by simp [Value.ownBlock] at hg)⟩
      simpa using h2
  · obtain ⟨v', w', hr, h2, h3⟩ := run_append_src (P := P) (w := w) t ty base e i z bytes ht hi hz hsize hby hzs v xs.length xs hown B u ys hsrc h63 hbytes hbase
    refine ⟨v', w', hr, .inr ?_, Below.grown (Below.refl _ _) h3 hbase (fun g hg => (hown.lt g hg).1)⟩
    rw [List.length_append]; exact h2
theorem zrow_new {base r : Nat} {e : TypeId} {W : World} : ZRow base e W (.slice (some ⟨r, 0, none⟩) 0 0) [] := .inl ⟨rfl, r, rfl⟩
theorem src_ints {W : World} {B c : Nat} {A : Option Addr} {xs : List Int} (h : Src W B (.slice A xs.length c) xs) : Ints W B A xs := by
  rcases h.out with ⟨_, rfl⟩ | ⟨b, off, c', e, hc⟩
  · exact Ints.nil
  · injection e with e1 _ _
    subst e1
    exact ⟨fun k hk => ⟨b, off, rfl, (hc k hk).1, (hc k hk).2⟩⟩
/-- the same, at a step of a region that draws its order -/
theorem step_append_z {P : Program} {ops : Array Oper} {o : Oper} {a : Act} {w : World} {K : Act → World → Prop} {Q : Exit → Act → World → Prop} {E : Prop} (hgd : o.guard = none) (s x : Operand) (t : TypeId)
    (ho : o.op = .call { callee := .builtin .append, args := #[s, x], argTypes := #[t, t] })
    (base : Nat) (e : TypeId) (i : TypeInfo) (z : Value) (bytes : Nat) (ht : P.underlying t = some (.slice e)) (hi : P.info? e = some i) (hz : i.zero = some z)
    (hsize : i.size = 1) (hby : i.bytes = bytes) (hzs : z.cells.size = 1) (v : Value) (xs : List Int) (hs : a.eval s = v) (hown : ZRow base e w v xs)
    (B : Nat) (u : Value) (ys : List Int) (hx : a.eval x = u) (hsrc : Src w B u ys) (h63 : xs.length + ys.length ≤ maxLen) (hbytes : (xs.length + ys.length) * bytes ≤ 140737488355328) (hbase : base ≤ w.heap.size)
    (W0 : World) (h0 : From W0 w) (h0b : W0.heap.size ≤ base)
    (h : ∀ A c w', ZRow base e w' (.slice A (xs ++ ys).length c) (xs ++ ys) → Below base w w' → From W0 w' → W0.heap.size ≤ base → base ≤ w'.heap.size → K (a.put o.dst (.slice A (xs ++ ys).length c)) w') :
    if Region.wanted o (yielded ops a.tmps) = true then Oper.wp P o a w K Q else E := by
  have hw : Region.wanted o (yielded ops a.tmps) = true := by simp [Region.wanted, hgd]
  rw [if_pos hw]
  obtain ⟨v', w', hr, h1, h2⟩ := run_append_z (P := P) t o.type base e i z bytes ht hi hz hsize hby hzs v xs hown B u ys hsrc h63 hbytes hbase
  obtain ⟨A, c, rfl⟩ := h1.form
  unfold Oper.wp execOp
  simp only [ho, resolve, invoke, builtin, Sem.run_bind, Sem.run_pure, Result.andThen_ok, List.map_toArray, List.map_cons, List.map_nil, hs, hx, hr]
  exact h A c w' h1 h2 (Below.trans h0 (h2.mono h0b)) h0b (Nat.le_trans hbase h2.size)
end Go.Proofs.YtgfmnolghbiedaaDoor
