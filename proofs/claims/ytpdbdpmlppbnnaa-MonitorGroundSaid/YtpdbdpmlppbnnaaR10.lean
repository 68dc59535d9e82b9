/-
  Arguments opened: rows of numbers, lists of six numbers; the monitors' texts and ours speak of the same.
-/
import Derived.Test.YtpdbdpmlppbnnaaMB
import Derived.Test.YtpdbdpmlppbnnaaR8
import Derived.Test.YtpdbdpmlppbnnaaR9
import Derived.Test.YtpdbdpmlppbnnaaV7
import Derived.Deep.Grids
import Derived.Deep.Matrix
namespace Go.Proofs.Ytpdbdpmlppbnnaa
open Go.ChangeShapes Go.WideShapes Go.ChangeAt Go.RowKit Go.Deep Go.Joins

theorem toMo {w : World} {B n : Nat} {v : Value} {cs : List Value} (h : Sl w B v n cs) : Mo.Sl w B v n cs := ⟨h.out⟩
theorem ofMo {w : World} {B n : Nat} {v : Value} {cs : List Value} (h : Mo.Sl w B v n cs) : Sl w B v n cs := ⟨h.out⟩
theorem ints_mo {w : World} {v : Value} {l : List Int} (h : Ints w v l) : Mo.Ints w v l := ⟨h.out⟩
set_option maxRecDepth 100000 in
theorem open_rows {H : Type} {enc : TypeId × Value → H} {W : World} {base : Nat} {v : Value} {d : DataW H} {p : List MemPlace}
    (hv : Value.okWide Try.prog W .any base 69 v) (h : DataW.Trod enc Try.prog W 0 (fun _ => true) true 69 v d p) :
    ∃ A c l, v = .slice A (l : List (List Int)).length c ∧ Mo.Rows W (.slice A l.length c) l ∧ l.length ≤ 9223372036854775807 := by
  obtain ⟨a0, len, cap, rfl⟩ := okWide_slice Try.underlying69 hv
  obtain ⟨fuel, hf⟩ := h
  rcases open_int_rows Try.underlying69 Try.underlying22 Try.underlying3 (by kernel_rfl) (by kernel_rfl) hf with ⟨hcs, _⟩ | ⟨a, len', cap', AA, L, C, Z, hcs, _, hl, hm, _, hrow⟩
  · simp only [Value.cells, List.cons.injEq, Value.slice.injEq, and_true] at hcs
    obtain ⟨rfl, rfl, rfl⟩ := hcs
    exact ⟨none, 0, [], rfl, ⟨[], toMo (Sl.nil _ _), fun k hk => absurd hk (by simp)⟩, by simp⟩
  · simp only [Value.cells, List.cons.injEq, Value.slice.injEq, and_true] at hcs
    obtain ⟨rfl, rfl, rfl⟩ := hcs
    refine ⟨some a, cap, (List.range len).map fun r => (Z r).take (L r), by simp, ⟨(List.range len).map fun r => Value.slice (AA r) (L r) (C r), ?_, fun k hk => ?_⟩, by simp; unfold maxLen at hm; omega⟩
    · rw [List.length_map, List.length_range]
      refine toMo (sl_open fun j u hj => ?_)
      have hjl : j < len := by have := (List.getElem?_eq_some_iff.1 hj).1; simpa using this
      rw [(hrow j (by omega)).1, ← hj]
      simp [List.getElem?_map, List.getElem?_range hjl]
    · simp only [List.length_map, List.length_range] at hk
      obtain ⟨h1, h2, h3, h4, h5, h6, h7⟩ := hrow k (by omega)
      have hlen : ((Z k).take (L k)).length = L k := by rw [List.length_take]; omega
      refine ⟨AA k, C k, by simp [List.getElem?_map, List.getElem?_range hk]; omega, ?_, ?_, ?_⟩
      · rw [List.getElem_map, List.getElem_range, hlen]
        cases ha : AA k with
        | none =>
          have hC := h6 ha
          have hL : L k = 0 := by omega
          rw [hL, hC]; exact toMo (Sl.nil _ _)
        | some a' =>
          have := sl_open (w := W) (a := a') (n := L k) (c := C k) (cs := ic ((Z k).take (L k))) fun j u hj => by
            have hjl : j < L k := by have := (List.getElem?_eq_some_iff.1 hj).1; rw [ic_len, hlen] at this; exact this
            rw [(h7 a' ha).2 j (by omega), ← hj]
            simp only [ic, List.getElem?_map, List.getElem?_take, if_pos hjl]
            rw [List.getD_eq_getElem?_getD, List.getElem?_eq_getElem (by omega)]
            rfl
          unfold Mo.Ints
          rw [hlen]
          exact toMo this
      · rw [List.getElem_map, List.getElem_range, hlen]; unfold maxLen at h3; omega
      · rw [List.getElem_map, List.getElem_range]
        intro x hx
        have hw := h5 x (List.mem_of_mem_take hx)
        simp only [Lit.wf, Bool.and_eq_true, decide_eq_true_eq] at hw
        exact hw

theorem trod_arr6 {H : Type} {enc : TypeId × Value → H} {P : Program} {w : World} {base : Nat} {spare : Nat → Bool} {held : Bool} {t e : TypeId} {fuel : Nat} {c0 c1 c2 c3 c4 c5 : Value} {x : DataW H × List MemPlace} (ht : P.underlying t = some (.array 6 e)) (hce : P.cellsOf e = 1)
    (h : DataW.trod enc P w base spare held fuel t [c0, c1, c2, c3, c4, c5] = some x) : ∃ n, ∀ (j : Nat) (u : Value), [c0, c1, c2, c3, c4, c5][j]? = some u → ∃ y, DataW.trod enc P w base spare held n e [u] = some y := by
  cases fuel with
  | zero => simp [DataW.trod] at h
  | succ n =>
    unfold DataW.trod at h
    rw [ht] at h
    have r6 : List.range 6 = [0, 1, 2, 3, 4, 5] := rfl
    simp [r6, hce] at h
    obtain ⟨_, h⟩ := h
    refine ⟨n, fun j u hj => ?_⟩
    cases h0 : DataW.trod enc P w base spare held n e [c0] with
    | none => simp [h0] at h
    | some y0 =>
      cases h1 : DataW.trod enc P w base spare held n e [c1] with
      | none => simp [h0, h1] at h
      | some y1 =>
        cases h2 : DataW.trod enc P w base spare held n e [c2] with
        | none => simp [h0, h1, h2] at h
        | some y2 =>
          cases h3 : DataW.trod enc P w base spare held n e [c3] with
          | none => simp [h0, h1, h2, h3] at h
          | some y3 =>
            cases h4 : DataW.trod enc P w base spare held n e [c4] with
            | none => simp [h0, h1, h2, h3, h4] at h
            | some y4 =>
              cases h5 : DataW.trod enc P w base spare held n e [c5] with
              | none => simp [h0, h1, h2, h3, h4, h5] at h
              | some y5 =>
                have hlt : j < 6 := (List.getElem?_eq_some_iff.1 hj).1
                rcases j with _ | _ | _ | _ | _ | _ | j
                · simp at hj; subst hj; exact ⟨_, h0⟩
                · simp at hj; subst hj; exact ⟨_, h1⟩
                · simp at hj; subst hj; exact ⟨_, h2⟩
                · simp at hj; subst hj; exact ⟨_, h3⟩
                · simp at hj; subst hj; exact ⟨_, h4⟩
                · simp at hj; subst hj; exact ⟨_, h5⟩
                · omega
/-- lists of six numbers in memory -/
def Sixes (w : World) (A : Option Addr) (ls : List (List Int)) : Prop := ∀ i (hi : i < ls.length), ls[i].length = 6 ∧ (∀ x ∈ ls[i], -9223372036854775808 ≤ x ∧ x ≤ 9223372036854775807) ∧ ∃ b off, A = some ⟨b, off, none⟩ ∧ b < w.heap.size ∧ ∀ k, k < 6 → w.cell? ⟨b, off + i * 6 + k, none⟩ = some (.int .i64 (ls[i].getD k 0))
theorem Sixes.from {w w' : World} {A : Option Addr} {ls : List (List Int)} (h : Sixes w A ls) (k : From w w') : Sixes w' A ls := fun i hi => by
  obtain ⟨h1, h2, b, off, e, hb, h3⟩ := h i hi
  exact ⟨h1, h2, b, off, e, Nat.lt_of_lt_of_le hb k.size, fun j hj => k.cell (h3 j hj)⟩
set_option maxRecDepth 100000 in
theorem open_arr6s {H : Type} {enc : TypeId × Value → H} {W : World} {base : Nat} {v : Value} {d : DataW H} {p : List MemPlace}
    (hv : Value.okWide Try.prog W .any base 70 v) (h : DataW.Trod enc Try.prog W 0 (fun _ => true) true 70 v d p) :
    ∃ A c l, v = .slice A (l : List (List Int)).length c ∧ Sixes W A l ∧ l.length ≤ 9223372036854775807 := by
  obtain ⟨a0, len, cap, rfl⟩ := okWide_slice Try.underlying70 hv
  have hC : Try.prog.cellsOf 73 = 6 := by kernel_rfl
  have k3 : Try.prog.cellsOf 3 = 1 := by kernel_rfl
  obtain ⟨fuel, hf⟩ := h
  rcases open_slice Try.underlying70 hf with ⟨hcs, _⟩ | ⟨a, len', cap', m, n, D, Pl, hcs, _, hl, hm, hmm, _, hel⟩
  · simp only [Value.cells, List.cons.injEq, Value.slice.injEq, and_true] at hcs
    obtain ⟨rfl, rfl, rfl⟩ := hcs
    exact ⟨none, 0, [], rfl, fun i hi => absurd hi (by simp), by simp⟩
  · simp only [Value.cells, List.cons.injEq, Value.slice.injEq, and_true] at hcs
    obtain ⟨rfl, rfl, rfl⟩ := hcs
    have key : ∀ i, ∃ l : List Int, i < len → l.length = 6 ∧ (∀ x ∈ l, -9223372036854775808 ≤ x ∧ x ≤ 9223372036854775807) ∧ ∀ k, k < 6 → W.cell? (a.add (i * 6 + k)) = some (.int .i64 (l.getD k 0)) := by
      intro i
      by_cases hi : i < len
      · obtain ⟨cells, hcells, htrod⟩ := hel i (by rw [hmm]; split <;> omega)
        obtain ⟨_, hcl, hat⟩ := World.cells?_some hcells
        rw [hC] at hcl hat
        match cells, hcl with
        | [c0, c1, c2, c3, c4, c5], _ =>
          obtain ⟨n', hy⟩ := trod_arr6 Try.underlying73 k3 htrod
          have each : ∀ j, ∃ z : Int, j < 6 → [c0, c1, c2, c3, c4, c5][j]? = some (.int .i64 z) ∧ -9223372036854775808 ≤ z ∧ z ≤ 9223372036854775807 := by
            intro j
            by_cases hj : j < 6
            · obtain ⟨y, hy1⟩ := hy j ([c0, c1, c2, c3, c4, c5][j]'(by simpa using hj)) (List.getElem?_eq_getElem _)
              obtain ⟨z, e, _, wz⟩ := DataW.trod_int Try.underlying3 hy1
              simp only [List.cons.injEq, and_true] at e
              simp only [Lit.wf, Bool.and_eq_true, decide_eq_true_eq] at wz
              exact ⟨z, fun _ => ⟨by rw [List.getElem?_eq_getElem (by simpa using hj), e], wz⟩⟩
            · exact ⟨0, fun h => absurd h hj⟩
          obtain ⟨f, hf⟩ := Classical.axiomOfChoice each
          refine ⟨(List.range 6).map f, fun _ => ⟨by simp, fun x hx => ?_, fun k hk => ?_⟩⟩
          · obtain ⟨k, hk, rfl⟩ := List.mem_map.1 hx
            exact (hf k (List.mem_range.1 hk)).2
          · have h1 := hat k hk
            rw [Go.Deep.add_add, (hf k hk).1] at h1
            rw [h1]
            rw [List.getD_eq_getElem?_getD, List.getElem?_map, List.getElem?_range hk]
            rfl
      · exact ⟨[], fun h => absurd h hi⟩
    obtain ⟨f, hf⟩ := Classical.axiomOfChoice key
    refine ⟨some a, cap, (List.range len).map f, by simp, fun i hi => ?_, by simp; unfold maxLen at hm; omega⟩
    simp only [List.length_map, List.length_range] at hi
    obtain ⟨h1, h2, h3⟩ := hf i hi
    have h30 := h3 0 (by omega)
    have hform : ∃ b off, a = ⟨b, off, none⟩ := by
      obtain ⟨_, _, g3⟩ := hf 0 (by omega)
      have g30 := g3 0 (by omega)
      rw [show a.add (0 * 6 + 0) = a from rfl] at g30
      exact addr_form g30
    obtain ⟨b, off, rfl⟩ := hform
    rw [List.getElem_map, List.getElem_range]
    rw [Addr.add_mid] at h30
    refine ⟨h1, h2, b, off, rfl, World.block_lt_of_cell? W _ h30, fun k hk => ?_⟩
    have := h3 k hk
    rwa [Addr.add_mid, ← Nat.add_assoc] at this
set_option maxRecDepth 100000 in
theorem open_boolsv {H : Type} {enc : TypeId × Value → H} {W : World} {base : Nat} {v : Value} {d : DataW H} {p : List MemPlace}
    (hv : Value.okWide Try.prog W .any base 32 v) (h : DataW.Trod enc Try.prog W 0 (fun _ => true) true 32 v d p) :
    ∃ A c l, v = .slice A (l : List Bool).length c ∧ Bools W (.slice A l.length c) l ∧ l.length ≤ 9223372036854775807 ∧ l.length ≤ c ∧ (A = none → c = 0) := by
  obtain ⟨a0, len, cap, rfl⟩ := okWide_slice Try.underlying32 hv
  obtain ⟨fuel, hf⟩ := h
  have k4 : Try.prog.cellsOf 4 = 1 := by kernel_rfl
  rcases open_bools Try.underlying32 Try.underlying4 k4 hf with ⟨hcs, _⟩ | ⟨a, len', cap', B, hcs, _, hl, hm, _, hcell⟩
  · simp only [Value.cells, List.cons.injEq, Value.slice.injEq, and_true] at hcs
    obtain ⟨rfl, rfl, rfl⟩ := hcs
    exact ⟨none, 0, [], rfl, Sl.nil _ _, by simp, Nat.le_refl _, fun _ => rfl⟩
  · simp only [Value.cells, List.cons.injEq, Value.slice.injEq, and_true] at hcs
    obtain ⟨rfl, rfl, rfl⟩ := hcs
    have hlen : ((List.range len).map B).length = len := by simp
    refine ⟨some a, cap, (List.range len).map B, by rw [hlen], ?_, by rw [hlen]; unfold maxLen at hm; omega, by rw [hlen]; exact hl, fun h => by cases h⟩
    refine sl_open fun j u hj => ?_
    have hjl : j < len := by have := (List.getElem?_eq_some_iff.1 hj).1; rw [bc_len, hlen] at this; exact this
    rw [hcell j (by omega), ← hj]
    simp [bc, List.getElem?_map, List.getElem?_range hjl]
/-- rows of one's own stay where a source or a sink turns -/
theorem own_offX {p base size n : Nat} {w w' : World} {e t : TypeId} {v : Value} {xs : List Value} {cs : Array Value} (h : w.ownsRow base e size v n xs) (o : OffX p w w') (hp : w.heap[p]? = some (.cells cs t (0, 0))) (ht : t ≠ e) : w'.ownsRow base e size v n xs := by
  obtain ⟨b, es, clock, hb, o⟩ := o
  refine own_heapOf h fun i ds hi => ?_
  rw [o.block i (Array.getElem?_eq_some_iff.1 hi).1 (fun hc => by
    rcases hc with rfl | rfl
    · exact cells_ne hi hp (Ne.symm ht) rfl
    · rw [hi] at hb; cases hb)]
  exact hi
theorem cell_offX {p c d : Nat} {w w' : World} {cs : Array Value} {t : TypeId} (o : OffX p w w') (hp : w.heap[p]? = some (.cells cs t (0, 0))) (hn : ∀ (j : Nat) (x : Bool), cs[j]? ≠ some (.bool x)) {b : Nat} {x : Bool} (hb : w.cell? ⟨b, c, none⟩ = some (.bool x)) : w'.cell? ⟨b, d, none⟩ = w.cell? ⟨b, d, none⟩ := by
  obtain ⟨bm, es, clock, hm, o⟩ := o
  have hlt := World.block_lt_of_cell? w _ hb
  refine World.cell?_of_block (w := w) (o.block b hlt fun hc => ?_)
  rcases hc with rfl | rfl
  · rw [cell_of_row _ _ _ _ _ _ hp] at hb
    exact hn c x hb
  · simp [World.cell?, hm] at hb
theorem OffX.size {p : Nat} {w w' : World} (o : OffX p w w') : w.heap.size ≤ w'.heap.size := by
  obtain ⟨_, _, _, _, o⟩ := o
  exact o.size
theorem bools_offX {p : Nat} {w w' : World} {cs : Array Value} {t : TypeId} {v : Value} {l : List Bool} (h : Mo.Bools w v l) (o : OffX p w w') (hp : w.heap[p]? = some (.cells cs t (0, 0))) (hn : ∀ (j : Nat) (x : Bool), cs[j]? ≠ some (.bool x)) : Mo.Bools w' v l := by
  rcases h.out with h | ⟨a, c, e, h⟩
  · exact ⟨.inl h⟩
  · refine ⟨.inr ⟨a, c, e, fun j u hj => ?_⟩⟩
    obtain ⟨b, off, e1, e2, e3⟩ := h j u hj
    have hu : ∃ x, u = .bool x := by
      simp only [Mo.bc, List.getElem?_map] at hj
      cases hh : l[j]? with
      | none => rw [hh] at hj; cases hj
      | some x => rw [hh] at hj; exact ⟨x, (Option.some.inj hj).symm⟩
    obtain ⟨x, rfl⟩ := hu
    exact ⟨b, off, e1, Nat.lt_of_lt_of_le e2 o.size, by rw [cell_offX o hp hn e3]; exact e3⟩
theorem mons_offX {p : Nat} {w w' : World} {cs : Array Value} {t : TypeId} {v : Value} {ms : List Mo.Mon} (h : Mo.Mons w v ms) (o : OffX p w w') (hp : w.heap[p]? = some (.cells cs t (0, 0))) (hn : ∀ (j : Nat) (x : Bool), cs[j]? ≠ some (.bool x)) : Mo.Mons w' v ms := by
  obtain ⟨ps, h1, h2, h3⟩ := h.out
  refine ⟨ps, h1, ?_, fun a ha => bools_offX (h3 a ha) o hp hn⟩
  rcases h2.out with h2 | ⟨a, c, e, h2⟩
  · exact ⟨.inl h2⟩
  · refine ⟨.inr ⟨a, c, e, fun j u hj => ?_⟩⟩
    obtain ⟨b, off, e1, e2, e3⟩ := h2 j u hj
    have hne : 0 < ps.length := by
      cases ps with
      | nil => simp [Mo.mlc] at hj
      | cons x y => simp
    have h7 := Mo.mlc_at ps 0 hne 7 (.bool ps[0].1.raised) rfl
    obtain ⟨b', off', f1, _, f3⟩ := h2 _ _ h7
    rw [e1] at f1
    injection f1 with f1 f2 _
    subst f1 f2
    exact ⟨b, off, e1, Nat.lt_of_lt_of_le e2 o.size, by rw [cell_offX o hp hn f3]; exact e3⟩
end Go.Proofs.Ytpdbdpmlppbnnaa
