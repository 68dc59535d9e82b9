/-
  Layer 28: what holds while a packet is read.
-/
import Derived.Test.YtpdbdpmlppbnnaaU12
namespace Go.Proofs.Ytpdbdpmlppbnnaa
open Go.RowKit Go.Shelf

theorem RdC.heapOf {b N c at_ : Nat} {w w' : World} {A : Option Addr} {l : List Int} {e : Int} (h : RdC w b A c N l at_ e) (hk : ∀ (i : Nat) (cs : Array Value) (t : TypeId), (t = 5 ∨ t = 153) → w.heap[i]? = some (.cells cs t (0, 0)) → w'.heap[i]? = some (.cells cs t (0, 0))) : RdC w' b A c N l at_ e := by
  refine ⟨h.len, hk _ _ _ (.inr rfl) h.box, ?_, h.ok⟩
  obtain ⟨h1, h2⟩ := h.own
  refine ⟨h1, ?_⟩
  rcases h2 with h2 | ⟨g, cap, cur, hv, hg, hh, r⟩
  · exact .inl h2
  · exact .inr ⟨g, cap, cur, hv, hg, hk _ _ _ (.inl rfl) hh, r⟩
theorem RdM.heapOf {b : Nat} {w w' : World} {s : St} (h : RdM w b s) (hk : ∀ (i : Nat) (cs : Array Value) (t : TypeId), (t = 5 ∨ t = 153) → w.heap[i]? = some (.cells cs t (0, 0)) → w'.heap[i]? = some (.cells cs t (0, 0))) : RdM w' b s := by
  cases s with
  | bad e =>
    obtain ⟨he, A, c, N, l, at_, hc⟩ := h
    exact ⟨he, A, c, N, l, at_, hc.heapOf hk⟩
  | good r =>
    obtain ⟨A, c, N, l, at_, hc, hr⟩ := h
    exact ⟨A, c, N, l, at_, hc.heapOf hk, hr⟩
theorem RdM.from {b : Nat} {w w' : World} {s : St} (h : RdM w b s) (k : From w w') : RdM w' b s := h.heapOf fun _ _ _ _ e => k.heap e
theorem RdM.setOff {b g i : Nat} {w : World} {s : St} (h : RdM w b s) {cs : Array Value} {t : TypeId} (hg : w.heap[g]? = some (.cells cs t (0, 0))) (h1 : t ≠ 5) (h2 : t ≠ 153) (v : Value) : RdM (w.setCell ⟨g, i, none⟩ v) b s := by
  refine h.heapOf fun j cs' t' ht e => ?_
  have hj : j ≠ g := by
    rintro rfl
    rw [hg] at e
    injection e with e
    injection e with _ e _
    rcases ht with ht | ht
    · exact h1 (e.trans ht)
    · exact h2 (e.trans ht)
  rw [heap_set_off _ (Ne.symm hj)]
  exact e
theorem RdM.box {b : Nat} {w : World} {s : St} (h : RdM w b s) : ∃ cs, w.heap[b]? = some (.cells cs 153 (0, 0)) := by
  cases s with
  | bad e => obtain ⟨_, A, c, N, l, at_, hc⟩ := h; exact ⟨_, hc.box⟩
  | good r => obtain ⟨A, c, N, l, at_, hc, _⟩ := h; exact ⟨_, hc.box⟩
theorem cells_ne {w : World} {i j : Nat} {cs cs' : Array Value} {t t' : TypeId} (h : w.heap[i]? = some (.cells cs t (0, 0))) (k : w.heap[j]? = some (.cells cs' t' (0, 0))) (ht : t ≠ t') : i ≠ j := by
  rintro rfl
  rw [h] at k
  injection k with k
  injection k with _ k _
  exact ht k
/-- a block whose cells hold numbers of another type than a reader's stays while the reader reads -/
theorem grown_cells {w w' : World} {b i : Nat} {s : St} {cs : Array Value} {t : TypeId} (g : w.grownBy w' (some b)) (hr : RdM w b s) (h : w.heap[i]? = some (.cells cs t (0, 0))) (ht : t ≠ 153) : w'.heap[i]? = some (.cells cs t (0, 0)) := by
  obtain ⟨cs', hb⟩ := hr.box
  rw [g.block i (Array.getElem?_eq_some_iff.1 h).1 (by have := cells_ne h hb ht; simpa using this)]
  exact h
theorem own_heapOf {w w' : World} {base size n : Nat} {e : TypeId} {v : Value} {xs : List Value} (h : w.ownsRow base e size v n xs) (hk : ∀ (i : Nat) (cs : Array Value), w.heap[i]? = some (.cells cs e (0, 0)) → w'.heap[i]? = some (.cells cs e (0, 0))) : w'.ownsRow base e size v n xs := by
  obtain ⟨h1, h2⟩ := h
  refine ⟨h1, ?_⟩
  rcases h2 with h2 | ⟨g, cap, cur, hv, hg, hh, r⟩
  · exact .inl h2
  · exact .inr ⟨g, cap, cur, hv, hg, hk _ _ hh, r⟩
theorem from_grown {w wr w' : World} {b : Nat} (h : From w wr) (g : wr.grownBy w' (some b)) (hb : w.heap.size ≤ b) : From w w' :=
  Below.grown h g h.size (fun k hk => by injection hk with hk; omega)
/-- the head of a packet is read: a reader, the box of the result, the box of the base -/
structure DH (w wr : World) (b r0 : Nat) (s : St) : Prop where
  from_ : From w wr
  low : w.heap.size ≤ b ∧ w.heap.size ≤ r0
  rd : RdM wr b s
  box : wr.heap[r0]? = some (.cells #[.int .i64 0, .slice none 0 0] 24 (0, 0))
theorem DH.read {w wr w' : World} {b r0 : Nat} {s s' : St} (h : DH w wr b r0 s) (hr : RdM w' b s') (g : wr.grownBy w' (some b)) : DH w w' b r0 s' :=
  ⟨from_grown h.from_ g h.low.1, h.low, hr, grown_cells g h.rd h.box (by decide)⟩
theorem DH.go {w wr w' : World} {b r0 : Nat} {s : St} (h : DH w wr b r0 s) (k : From wr w') : DH w w' b r0 s := ⟨h.from_.trans k, h.low, h.rd.from k, k.heap h.box⟩
/-- entries are read: besides, the values and what is known -/
structure DL (w wr : World) (b r0 : Nat) (s : St) (gv cv gk n : Nat) (vals : List Int) (known : List Bool) : Prop where
  h : DH w wr b r0 s
  v : wr.ownsRow w.heap.size 3 1 (.slice (some ⟨gv, 0, none⟩) n cv) n (ic vals)
  k : wr.ownsRow w.heap.size 4 1 (.slice (some ⟨gk, 0, none⟩) n n) n (bc known)
theorem own_block {w : World} {base size n g c : Nat} {e : TypeId} {xs : List Value} (h : w.ownsRow base e size (.slice (some ⟨g, 0, none⟩) n c) n xs) : base ≤ g ∧ ∃ cs, w.heap[g]? = some (.cells cs e (0, 0)) := by
  rcases h.2 with ⟨hv, _⟩ | ⟨g', cap', cur, hv, hg, hh, _⟩
  · cases hv
  · injection hv with e _ _
    injection e with e
    injection e with e _ _
    subst e
    exact ⟨hg, cur, hh⟩
theorem DL.read {w wr w' : World} {b r0 : Nat} {s s' : St} {gv cv gk n : Nat} {vals : List Int} {known : List Bool} (h : DL w wr b r0 s gv cv gk n vals known) (hr : RdM w' b s') (g : wr.grownBy w' (some b)) : DL w w' b r0 s' gv cv gk n vals known :=
  ⟨h.h.read hr g, own_heapOf h.v fun _ _ e => grown_cells g h.h.rd e (by decide), own_heapOf h.k fun _ _ e => grown_cells g h.h.rd e (by decide)⟩
theorem DL.go {w wr w' : World} {b r0 : Nat} {s : St} {gv cv gk n : Nat} {vals : List Int} {known : List Bool} (h : DL w wr b r0 s gv cv gk n vals known) (k : From wr w') : DL w w' b r0 s gv cv gk n vals known :=
  ⟨h.h.go k, own_call h.v k, own_call h.k k⟩
theorem DL.setV {w wr : World} {b r0 : Nat} {s : St} {gv cv gk n : Nat} {vals : List Int} {known : List Bool} (h : DL w wr b r0 s gv cv gk n vals known) (j : Nat) (x : Int) : DL w (wr.setCell ⟨gv, j, none⟩ (.int .i64 x)) b r0 s gv cv gk n (vals.set j x) known := by
  obtain ⟨hg, cs, hh⟩ := own_block h.v
  refine ⟨⟨from_set h.h.from_ hg _ _, h.h.low, h.h.rd.setOff hh (by decide) (by decide) _, ?_⟩, ?_, own_heapOf h.k fun i cs' e => ?_⟩
  · rw [heap_set_off _ (cells_ne hh h.h.box (by decide))]; exact h.h.box
  · have := own_put h.v j (.int .i64 x)
    rwa [show (ic vals).set j (.int .i64 x) = ic (vals.set j x) by simp [ic]] at this
  · rw [heap_set_off _ (cells_ne hh e (by decide))]; exact e
theorem DL.setK {w wr : World} {b r0 : Nat} {s : St} {gv cv gk n : Nat} {vals : List Int} {known : List Bool} (h : DL w wr b r0 s gv cv gk n vals known) (j : Nat) (x : Bool) : DL w (wr.setCell ⟨gk, j, none⟩ (.bool x)) b r0 s gv cv gk n vals (known.set j x) := by
  obtain ⟨hg, cs, hh⟩ := own_block h.k
  refine ⟨⟨from_set h.h.from_ hg _ _, h.h.low, h.h.rd.setOff hh (by decide) (by decide) _, ?_⟩, own_heapOf h.v fun i cs' e => ?_, ?_⟩
  · rw [heap_set_off _ (cells_ne hh h.h.box (by decide))]; exact h.h.box
  · rw [heap_set_off _ (cells_ne hh e (by decide))]; exact e
  · have := own_put h.k j (.bool x)
    rwa [show (bc known).set j (.bool x) = bc (known.set j x) by simp [bc]] at this
theorem DL.fin {w wr : World} {b r0 : Nat} {s : St} {gv cv gk n : Nat} {vals : List Int} {known : List Bool} (h : DL w wr b r0 s gv cv gk n vals known) (x y : Value) :
    ((wr.setCell ⟨r0, 0, none⟩ x).setCell ⟨r0, 1, none⟩ y).ownsRow w.heap.size 3 1 (.slice (some ⟨gv, 0, none⟩) n cv) n (ic vals) ∧ ((wr.setCell ⟨r0, 0, none⟩ x).setCell ⟨r0, 1, none⟩ y).ownsRow w.heap.size 4 1 (.slice (some ⟨gk, 0, none⟩) n n) n (bc known) ∧
      From w ((wr.setCell ⟨r0, 0, none⟩ x).setCell ⟨r0, 1, none⟩ y) ∧ ((wr.setCell ⟨r0, 0, none⟩ x).setCell ⟨r0, 1, none⟩ y).heap[r0]? = some (.cells #[x, y] 24 (0, 0)) := by
  obtain ⟨_, cs, hv⟩ := own_block h.v
  obtain ⟨_, cs', hk⟩ := own_block h.k
  have n1 := cells_ne hv h.h.box (by decide)
  have n2 := cells_ne hk h.h.box (by decide)
  refine ⟨ownsRow_setCell_other (ownsRow_setCell_other h.v (by simpa [Value.ownBlock] using n1) _) (by simpa [Value.ownBlock] using n1) _, ownsRow_setCell_other (ownsRow_setCell_other h.k (by simpa [Value.ownBlock] using n2) _) (by simpa [Value.ownBlock] using n2) _,
    from_set (from_set h.h.from_ h.h.low.2 _ _) h.h.low.2 _ _, box2_set h.h.box _ _⟩
theorem tdiv2 (d : Int) : (0 ≤ d → d.tdiv 2 = d / 2) ∧ (d < 0 → d.tdiv 2 = -((-d) / 2)) := by
  constructor
  · intro h
    exact Int.tdiv_eq_ediv_of_nonneg h
  · intro h
    have : d = -(-d) := by omega
    rw [this, Int.neg_tdiv, Int.tdiv_eq_ediv_of_nonneg (by omega)]
    omega
theorem tdiv2_bd (d : Int) (h : -9223372036854775808 ≤ d ∧ d ≤ 9223372036854775807) : -9223372036854775808 ≤ d.tdiv 2 ∧ d.tdiv 2 ≤ 9223372036854775807 := by
  obtain ⟨h1, h2⟩ := tdiv2 d
  rcases Int.lt_or_le d 0 with h0 | h0
  · rw [h2 h0]; omega
  · rw [h1 h0]; omega
theorem tdiv2_small (d : Int) (h : -2147483647 ≤ d.tdiv 2 ∧ d.tdiv 2 ≤ 2147483647) : -4294967295 ≤ d ∧ d ≤ 4294967295 := by
  obtain ⟨h1, h2⟩ := tdiv2 d
  rcases Int.lt_or_le d 0 with h0 | h0
  · rw [h2 h0] at h; omega
  · rw [h1 h0] at h; omega
/-- what decode answers -/
def DecPost (w : World) (x : Dec) (e : Ending) (w' : World) : Prop :=
  match x with
  | .err c => e = .returned (.tuple #[snv 0 (.slice none 0 0), .slice none 0 0, .bool false, .int .i64 c]) ∧ From w w'
  | .ok seq vals known all => ∃ gv cv gk, e = .returned (.tuple #[snv seq (.slice (some ⟨gv, 0, none⟩) vals.length cv), .slice (some ⟨gk, 0, none⟩) vals.length vals.length, .bool all, .int .i64 0]) ∧ known.length = vals.length ∧
      w'.ownsRow w.heap.size 3 1 (.slice (some ⟨gv, 0, none⟩) vals.length cv) vals.length (ic vals) ∧ w'.ownsRow w.heap.size 4 1 (.slice (some ⟨gk, 0, none⟩) vals.length vals.length) vals.length (bc known) ∧ From w w'
theorem rdS_good {s : St} {r : List Int} (h : (rdS s).2 = .good r) : ∃ l, s = .good l := by
  cases s with
  | bad e => cases h
  | good l => exact ⟨l, rfl⟩
theorem if_good {c : Prop} [Decidable c] {s t : St} {e : Int} {r : List Int} (h : (if c then failS s e else s) = t) (ht : t = .good r) : ¬ c ∧ s = .good r := by
  subst ht
  by_cases hc : c
  · rw [if_pos hc] at h; cases s <;> cases h
  · rw [if_neg hc] at h; exact ⟨hc, h⟩
theorem headS_some {l : List Int} {has : Nat → Option (Nat × List Int)} {first bs seq mark count nb : Nat} {bv : List Int} {s1 s3 s4 s5 s6 s7 s8 : St} (h1 : (rdS (.good l)).1 = first ∧ (rdS (.good l)).2 = s1) (hr : has first = some (bs, bv))
    (h3 : (rdS s1).1 = seq ∧ (rdS s1).2 = s3) (h4 : (if seq ≤ first ∨ 1000000 < seq then failS s3 7 else s3) = s4) (h5 : (rdS s4).1 = mark ∧ (rdS s4).2 = s5) (h6 : (if 1 < mark then failS s5 7 else s5) = s6)
    (h7 : (rdS s6).1 = count ∧ (rdS s6).2 = s7) (hn : bv.length = nb) (h8 : (if nb < count then failS s7 2 else s7) = s8) : headS l has = (s8, first, seq, mark, count) := by
  obtain ⟨rfl, rfl⟩ := h1
  obtain ⟨rfl, rfl⟩ := h3
  subst h4
  obtain ⟨rfl, rfl⟩ := h5
  subst h6
  obtain ⟨rfl, rfl⟩ := h7
  subst hn h8
  simp only [headS, hr]
theorem head_good {first seq mark count nb : Nat} {s3 s4 s5 s6 s7 s8 : St} {r : List Int} (h4 : (if seq ≤ first ∨ 1000000 < seq then failS s3 7 else s3) = s4) (h5 : (rdS s4).1 = mark ∧ (rdS s4).2 = s5) (h6 : (if 1 < mark then failS s5 7 else s5) = s6)
    (h7 : (rdS s6).1 = count ∧ (rdS s6).2 = s7) (h8 : (if nb < count then failS s7 2 else s7) = s8) (h : s8 = .good r) : first < seq ∧ seq ≤ 1000000 ∧ mark ≤ 1 ∧ count ≤ nb := by
  obtain ⟨a1, a2⟩ := if_good h8 h
  rw [← h7.2] at a2
  obtain ⟨l6, a3⟩ := rdS_good a2
  obtain ⟨a4, a5⟩ := if_good h6 a3
  rw [← h5.2] at a5
  obtain ⟨l4, a6⟩ := rdS_good a5
  obtain ⟨a7, _⟩ := if_good h4 a6
  omega
def finD (n seq mark : Nat) : Ent → Dec
  | .err e => .err e
  | .ok s known vals => if endS s ≠ 0 then .err (endS s) else .ok seq (finV (mark == 1) known vals) (if mark = 1 then List.replicate n true else known) (mark == 1)
theorem zag_bd {u : Nat} (h : u < 18446744073709551616) : -9223372036854775808 ≤ zag u ∧ zag u ≤ 9223372036854775807 := by
  unfold zag
  split <;> omega
theorem entry_eq {vals : List Int} {known : List Bool} {r : List Int} {p u nb : Nat} {t1 t2 t3 t4 t5 : St} {d : Int} (hn : vals.length = nb) (h1 : (rdS (.good r)).1 = p ∧ (rdS (.good r)).2 = t1)
    (h2 : (if nb ≤ p ∨ known.getD p false = true then failS t1 7 else t1) = t2) (h3 : (rdS t2).1 = u ∧ (rdS t2).2 = t3) (hd : zag u = d) (h4 : (if d = 0 then failS t3 7 else t3) = t4)
    (h5 : (if ¬ fitsV (d.tdiv 2) ∨ ¬ fitsV (vals.getD (min p (nb - 1)) 0 + d) then failS t4 5 else t4) = t5) : entryS vals known (.good r) = (t5, p, vals.getD p 0 + d) := by
  obtain ⟨rfl, rfl⟩ := h1
  subst hn h2
  obtain ⟨rfl, rfl⟩ := h3
  subst hd h4 h5
  rfl
theorem entry_good {vals : List Int} {known : List Bool} {p u nb : Nat} {t1 t2 t3 t4 t5 : St} {d : Int} {l : List Int}
    (h2 : (if nb ≤ p ∨ known.getD p false = true then failS t1 7 else t1) = t2) (h3 : (rdS t2).1 = u ∧ (rdS t2).2 = t3) (h4 : (if d = 0 then failS t3 7 else t3) = t4)
    (h5 : (if ¬ fitsV (d.tdiv 2) ∨ ¬ fitsV (vals.getD (min p (nb - 1)) 0 + d) then failS t4 5 else t4) = t5) (h : t5 = .good l) : p < nb ∧ fitsV (vals.getD p 0 + d) := by
  obtain ⟨a1, a2⟩ := if_good h5 h
  obtain ⟨a3, a4⟩ := if_good h4 a2
  rw [← h3.2] at a4
  obtain ⟨l2, a5⟩ := rdS_good a4
  obtain ⟨a6, _⟩ := if_good h2 a5
  have hp : p < nb := by
    rcases Nat.lt_or_ge p nb with h | h
    · exact h
    · exact absurd (.inl h) a6
  refine ⟨hp, ?_⟩
  have e : min p (nb - 1) = p := by omega
  rw [e] at a1
  exact Classical.byContradiction fun h => a1 (.inr h)
theorem rdS_bad (e : Int) : rdS (.bad e) = (0, .bad e) := rfl
theorem failS_bad (e c : Int) : failS (.bad e) c = .bad e := rfl
theorem decP_none {l : List Int} {has : Nat → Option (Nat × List Int)} {first : Nat} {s1 : St} {ec : Int} (h1 : (rdS (.good l)).1 = first ∧ (rdS (.good l)).2 = s1) (hr : has first = none) (h : failS s1 43 = .bad ec) : decP has l = .err ec := by
  obtain ⟨rfl, rfl⟩ := h1
  have e : headS l has = (.bad ec, (rdS (.good l)).1, 0, 0, 0) := by
    simp only [headS, hr, h, rdS_bad, failS_bad, ite_self]
  rw [decP, e]
theorem finV_true (known : List Bool) (vals : List Int) : finV true known vals = vals := rfl
theorem finV_at (known : List Bool) (vals : List Int) (k : Nat) (hk : k < vals.length) (hl : known.length = vals.length) :
    ((finV false known vals).take k ++ vals.drop k).set k (if known.getD k false then vals[k] else 0) = (finV false known vals).take (k + 1) ++ vals.drop (k + 1) := by
  have hfl : (finV false known vals).length = vals.length := by simp [finV, hl]
  have hk2 : k < known.length := by omega
  have hget : (finV false known vals)[k]'(by omega) = if known.getD k false then vals[k] else 0 := by
    simp [finV, List.getD_eq_getElem?_getD, List.getElem?_eq_getElem hk2]
  rw [List.set_append_right _ _ (by rw [List.length_take]; omega), List.length_take, Nat.min_eq_left (by omega), Nat.sub_self, List.drop_eq_getElem_cons hk, List.set_cons_zero, List.take_succ_eq_append_getElem (by omega), hget, List.append_assoc]
  rfl
theorem finV_cell (known : List Bool) (vals : List Int) (k : Nat) (hk : k < vals.length) (hl : known.length = vals.length) : ((finV false known vals).take k ++ vals.drop k)[k]? = some vals[k] := by
  have hfl : (finV false known vals).length = vals.length := by simp [finV, hl]
  rw [List.getElem?_append_right (by rw [List.length_take]; omega), List.length_take, Nat.min_eq_left (by omega), Nat.sub_self, List.drop_eq_getElem_cons hk]
  rfl
theorem trues_cell (known : List Bool) (k : Nat) (hk : k < known.length) : (List.replicate k true ++ known.drop k)[k]? = some known[k] := by
  rw [List.getElem?_append_right (by simp), List.length_replicate, Nat.sub_self, List.drop_eq_getElem_cons hk]
  rfl
theorem set_same {α : Type} {l : List α} {k : Nat} {x : α} (h : l[k]? = some x) : l.set k x = l := by
  apply List.ext_getElem?
  intro i
  rw [List.getElem?_set]
  by_cases e : k = i
  · subst e
    rw [if_pos rfl, h]
    simp [(List.getElem?_eq_some_iff.1 h).1]
  · rw [if_neg e]
theorem trues_set (known : List Bool) (k : Nat) (hk : k < known.length) : (List.replicate k true ++ known.drop k).set k true = List.replicate (k + 1) true ++ known.drop (k + 1) := by
  rw [List.set_append_right _ _ (by simp), List.length_replicate, Nat.sub_self, List.drop_eq_getElem_cons hk, List.set_cons_zero, List.replicate_succ', List.append_assoc]
  rfl
/-- what a base's look-up answers -/
def HasPost (w W : World) (o : Option (Nat × List Int)) (e : Ending) (W' : World) : Prop :=
  From W W' ∧ match o with
  | none => ∃ q A N c, e = .returned (.tuple #[snv q (.slice A N c), .bool false]) ∧ N ≤ 1000
  | some x => ∃ A c, e = .returned (.tuple #[snv x.1 (.slice A x.2.length c), .bool true]) ∧ Ints w (.slice A x.2.length c) x.2 ∧ 0 < x.2.length ∧ x.2.length ≤ 1000 ∧ x.1 ≤ 1000000 ∧ ∀ y ∈ x.2, fitsV y
end Go.Proofs.Ytpdbdpmlppbnnaa
