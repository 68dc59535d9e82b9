/-
  Walks of layer 31: what React's loop over an explanation leaves (no program), a store into a row of units.
-/
import Derived.Test.YtgfmnolghbiedaaDoorP7
namespace Go.Proofs.YtgfmnolghbiedaaDoor
open Go.RowKit Go.Shelf

theorem uc_set (l : UL) (k : Nat) (hk : k < l.length) (x : Int) : uc (l.set k (x, l[k].2)) = (uc l).set (k * 2) (.int .i64 x) := by
  induction l generalizing k with
  | nil => simp at hk
  | cons a t ih =>
    cases k with
    | zero => simp [uc]
    | succ k =>
      have := ih k (by simpa using hk)
      simp only [uc, List.flatMap_cons, List.set_cons_succ, List.getElem_cons_succ] at *
      rw [this, show (k + 1) * 2 = (k * 2) + 1 + 1 by omega]
      simp
/-- a row of units: its block, its cells -/
theorem own_units {w : World} {base n c : Nat} {A : Option Addr} {l : UL} (h : w.ownsRow base 44 2 (.slice A n c) n (uc l)) :
    ∃ g, base ≤ g ∧ ∀ k (hk : k < l.length), A = some ⟨g, 0, none⟩ ∧ w.cell? ⟨g, k * 2, none⟩ = some (.int .i64 l[k].1) ∧ w.cell? ⟨g, k * 2 + 1, none⟩ = some (.int .i64 l[k].2) ∧ w.frozen? ⟨g, k * 2, none⟩ = false := by
  have hn : l.length = n := by have := h.1; rw [uc_len] at this; omega
  rcases h.2 with ⟨hv, h0⟩ | ⟨g, cap, cur, hv, hg, hh, _⟩
  · exact ⟨base, Nat.le_refl _, fun k hk => by omega⟩
  · obtain ⟨rfl, rfl⟩ : A = some ⟨g, 0, none⟩ ∧ c = cap := by injection hv with h1 h2 h3; exact ⟨h1, h3⟩
    refine ⟨g, hg, fun k hk => ⟨rfl, ?_, ?_, by simp [World.frozen?, hh]⟩⟩
    · have c1 := h.cells (g := g) rfl _ _ (uc_at l k hk).1
      rw [← c1]; unfold Addr.add
      split
      · rename_i h0; rw [h0]
      · simp
    · have c1 := h.cells (g := g) rfl _ _ (uc_at l k hk).2
      rw [← c1]; unfold Addr.add
      split
      · rename_i h0; omega
      · simp
theorem put_units {w : World} {base n c g : Nat} {l : UL} (h : w.ownsRow base 44 2 (.slice (some ⟨g, 0, none⟩) n c) n (uc l)) {k : Nat} (hk : k < l.length) (x : Int) :
    (w.setCell ⟨g, k * 2, none⟩ (.int .i64 x)).ownsRow base 44 2 (.slice (some ⟨g, 0, none⟩) n c) n (uc (l.set k (x, l[k].2))) := by
  have hn : l.length = n := by have := h.1; rw [uc_len] at this; omega
  refine ⟨by rw [uc_len, List.length_set, hn], ?_⟩
  rcases h.2 with ⟨hv, h0⟩ | ⟨g', cap, cur, hv, hg, hh, h1, h2, h3, h4⟩
  · cases hv
  · obtain ⟨rfl, rfl⟩ : g = g' ∧ c = cap := by injection hv with h1 h2 h3; injection h1 with h1; injection h1 with h1; exact ⟨h1, h3⟩
    refine .inr ⟨g, c, cur.setIfInBounds (k * 2) (.int .i64 x), rfl, hg, ?_, h1, h2, by simpa using h3, ?_⟩
    · simp only [World.setCell, Array.getElem?_modify]
      simp [hh]
    · rw [Array.toList_setIfInBounds, uc_set l k hk, List.take_set, h4]
/-- the loop over a list of units -/
def runR (s : RS) (l : List Int) : RS := l.foldl stepR s
theorem runR_snoc (s : RS) (l : List Int) (u : Int) : runR s (l ++ [u]) = stepR (runR s l) u := by simp [runR]
theorem stepR_len (s : RS) (u : Int) : (stepR s u).us.length = s.us.length := by unfold stepR; split <;> simp
theorem runR_len (s : RS) (l : List Int) : (runR s l).us.length = s.us.length := by
  induction l generalizing s with
  | nil => rfl
  | cons u t ih => exact (ih (stepR s u)).trans (stepR_len s u)
theorem stepR_good {s : RS} (u : Int) (h : GoodU s.us) : GoodU (stepR s u).us := by
  unfold stepR
  split
  · exact h
  · rename_i hs
    intro x hx
    rcases List.mem_or_eq_of_mem_set hx with hx | rfl
    · exact h x hx
    · have hk : u.toNat < s.us.length := by
        by_cases hk : u.toNat < s.us.length
        · exact hk
        · exact absurd (.inl (by omega)) hs
      have hd : s.us.getD u.toNat (0, 0) = s.us[u.toNat] := by simp [List.getD_eq_getElem?_getD, List.getElem?_eq_getElem hk]
      obtain ⟨h1, h2, h3⟩ := h _ (List.getElem_mem hk)
      have hne : ¬ (s.us.getD u.toNat (0, 0)).1 + 1 = (s.us.getD u.toNat (0, 0)).2 := fun e => hs (.inr (.inr e))
      rw [hd] at hne ⊢
      exact ⟨by show 0 ≤ _ + 1; omega, by show _ + 1 < _; omega, h3⟩
theorem runR_good {s : RS} (l : List Int) (h : GoodU s.us) : GoodU (runR s l).us := by
  induction l generalizing s with
  | nil => exact h
  | cons u t ih => exact ih (stepR_good u h)
theorem stepR_bud {s : RS} (u : Int) (h : 0 ≤ s.bud) : 0 ≤ (stepR s u).bud ∧ (stepR s u).bud ≤ s.bud := by
  unfold stepR
  split
  · exact ⟨h, Int.le_refl _⟩
  · rename_i hs
    have : ¬ s.bud = 0 := fun e => hs (.inr (.inl e))
    exact ⟨by show 0 ≤ s.bud - 1; omega, by show s.bud - 1 ≤ s.bud; omega⟩
theorem runR_bud {s : RS} (l : List Int) (h : 0 ≤ s.bud) : 0 ≤ (runR s l).bud ∧ (runR s l).bud ≤ s.bud := by
  induction l generalizing s with
  | nil => exact ⟨h, Int.le_refl _⟩
  | cons u t ih =>
    obtain ⟨h1, h2⟩ := stepR_bud u h
    obtain ⟨h3, h4⟩ := ih (s := stepR s u) h1
    exact ⟨h3, Int.le_trans h4 h2⟩
theorem runR_sw (s : RS) (l : List Int) : (runR s l).sw.length ≤ s.sw.length + l.length := by
  induction l generalizing s with
  | nil => simp [runR]
  | cons u t ih =>
    have h1 := ih (stepR s u)
    have h2 : (stepR s u).sw.length ≤ s.sw.length + 1 := by unfold stepR; split <;> simp
    show (runR (stepR s u) t).sw.length ≤ _
    simp only [List.length_cons]
    omega
/-- the world wr has been changed in block B, or from base on -/
structure Agree (B base : Nat) (w wr : World) : Prop where
  os : wr.os = w.os
  tape : wr.tape = w.tape
  output : wr.output = w.output
  size : w.heap.size ≤ wr.heap.size
  block : ∀ k, k < base → k ≠ B → wr.heap[k]? = w.heap[k]?
theorem Agree.refl (B base : Nat) (w : World) : Agree B base w w := ⟨rfl, rfl, rfl, Nat.le_refl _, fun _ _ _ => rfl⟩
theorem Agree.set {B base : Nat} {w wr : World} (h : Agree B base w wr) {p : Addr} (hp : p.block = B ∨ base ≤ p.block) (u : Value) : Agree B base w (wr.setCell p u) :=
  ⟨h.os, h.tape, h.output, by simpa [World.setCell] using h.size, fun k hk hkB => (Below.heap_setCell _ _ _ _ (by omega)).trans (h.block k hk hkB)⟩
theorem Agree.drewN {B base : Nat} {w wr : World} (h : Agree B base w wr) (q : Nat) : Agree B base w (wr.drewN q) := by
  have := below_drewN (Below.refl wr.heap.size wr) q
  exact ⟨this.os.trans h.os, this.tape.trans h.tape, this.output.trans h.output, Nat.le_trans h.size this.size, fun k hk hkB => by rw [show (wr.drewN q).heap = wr.heap by simp]; exact h.block k hk hkB⟩
theorem Agree.alloc {B base : Nat} {w wr : World} (h : Agree B base w wr) (hb : base ≤ wr.heap.size) (o : Obj) : Agree B base w (wr.alloc o) :=
  ⟨h.os, h.tape, h.output, by have := h.size; simp; omega, fun k hk hkB => (Below.heap_alloc _ _ _ (by omega)).trans (h.block k hk hkB)⟩
theorem Agree.grown {B base : Nat} {w wr w' : World} {row : Option Nat} (h : Agree B base w wr) (hb : base ≤ wr.heap.size) (hg : wr.grownBy w' row) (hr : ∀ k, row = some k → base ≤ k) : Agree B base w w' :=
  ⟨hg.os.trans h.os, hg.tape.trans h.tape, hg.output.trans h.output, Nat.le_trans h.size hg.size, fun k hk hkB => (hg.block k (by omega) (fun e => by have := hr k e.symm; omega)).trans (h.block k hk hkB)⟩
end Go.Proofs.YtgfmnolghbiedaaDoor
