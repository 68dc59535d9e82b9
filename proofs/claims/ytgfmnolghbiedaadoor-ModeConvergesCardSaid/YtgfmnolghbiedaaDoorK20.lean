/-
  Walks of layer 30: a slice of numbers that is appended, wherever it lies; slices.Grow of nil, slices.Concat of two slices.
-/
import Derived.Test.YtgfmnolghbiedaaDoorK17
import Derived.Test.YtgfmnolghbiedaaDoorN4
import Derived.Lib.AppendZeros
import Derived.Lib.Buffer
namespace Go.Proofs.YtgfmnolghbiedaaDoor
open Go.RowKit

/-- the slice u of numbers xs, wherever it lies below block B -/
structure Src (w : World) (B : Nat) (u : Value) (xs : List Int) : Prop where
  out : (u = .slice none 0 0 ∧ xs = []) ∨ ∃ b off c, u = .slice (some ⟨b, off, none⟩) xs.length c ∧ ∀ k (hk : k < xs.length), b < B ∧ w.cell? ⟨b, off + k, none⟩ = some (.int .i64 xs[k])
theorem Src.below {w w' : World} {B : Nat} {u : Value} {xs : List Int} (h : Src w B u xs) (hb : Below B w w') : Src w' B u xs := by
  rcases h.out with h | ⟨b, off, c, e, h⟩
  · exact ⟨.inl h⟩
  · exact ⟨.inr ⟨b, off, c, e, fun k hk => ⟨(h k hk).1, (hb.cell (p := ⟨b, off + k, none⟩) (h k hk).1).trans (h k hk).2⟩⟩⟩
theorem Src.more {w : World} {B B' : Nat} {u : Value} {xs : List Int} (h : Src w B u xs) (hB : B ≤ B') : Src w B' u xs := by
  rcases h.out with h | ⟨b, off, c, e, h⟩
  · exact ⟨.inl h⟩
  · exact ⟨.inr ⟨b, off, c, e, fun k hk => ⟨by have := (h k hk).1; omega, (h k hk).2⟩⟩⟩
theorem Src.form {w : World} {B : Nat} {u : Value} {xs : List Int} (h : Src w B u xs) : ∃ A c, u = .slice A xs.length c := by
  rcases h.out with ⟨rfl, rfl⟩ | ⟨b, off, c, rfl, h⟩
  · exact ⟨_, _, rfl⟩
  · exact ⟨_, _, rfl⟩
theorem src_of_own {w : World} {base n : Nat} {u : Value} {l : List Int} (h : w.ownsRow base 3 1 u n (ic l)) : Src w w.heap.size u l := by
  have hn : l.length = n := by have := h.1; rw [ic_len] at this; omega
  subst hn
  rcases h.2 with ⟨rfl, h0⟩ | ⟨g, cap, cur, rfl, hg, hh, _⟩
  · exact ⟨.inl ⟨rfl, List.eq_nil_of_length_eq_zero h0⟩⟩
  · refine ⟨.inr ⟨g, 0, cap, rfl, fun k hk => ⟨(Array.getElem?_eq_some_iff.1 hh).1, ?_⟩⟩⟩
    have c1 := h.cells (g := g) rfl k (.int .i64 l[k]) (by simp [ic, hk])
    rw [← c1]
    unfold Addr.add
    split
    · rename_i h0; rw [h0]
    · rfl
theorem append_src {P : Program} {w : World} {ops : Array Oper} {rest : List Oper} {o : Oper} {a : Act} {Q : Exit → Act → World → Prop} (hgd : o.guard = none) (s x : Operand) (t : TypeId)
    (ho : o.op = .call { callee := .builtin .append, args := #[s, x], argTypes := #[t, t] })
    (base : Nat) (e : TypeId) (i : TypeInfo) (z : Value) (bytes : Nat) (ht : P.underlying t = some (.slice e)) (hi : P.info? e = some i) (hz : i.zero = some z)
    (hsize : i.size = 1) (hby : i.bytes = bytes) (hzs : z.cells.size = 1)
    (v : Value) (n : Nat) (xs : List Int) (hs : a.eval s = v) (hown : w.ownsRow base e 1 v n (ic xs))
    (B : Nat) (u : Value) (ys : List Int) (hx : a.eval x = u) (hsrc : Src w B u ys)
    (h63 : n + ys.length ≤ maxLen) (hbytes : (n + ys.length) * bytes ≤ 140737488355328) (hbase : base ≤ w.heap.size)
    (h : ∀ v' w', w'.ownsRow base e 1 v' (n + ys.length) (ic (xs ++ ys)) → w.grownBy w' v.ownBlock → wpList P ops Q rest (a.put o.dst v') w') : wpList P ops Q (o :: rest) a w := by
  rcases hsrc.out with ⟨hu, rfl⟩ | ⟨b, off, c, hu, hc⟩
  · refine wpList_append_own_none hgd s x t ho base e i 1 ht hi v n (ic xs) hs hown (hx.trans hu) (h v w ?_ (World.grownBy.refl w _))
    simpa using hown
  · refine wpList_append_own w hgd s x t ho base e i z 1 bytes ht hi hz hsize hby hzs (by decide) v n (ic xs) hs hown ⟨b, off, none⟩ ys.length c (ic ys) (hx.trans hu) (by simp [ic]) ?_ (ic_one _) h63 hbytes hbase fun v' w' k1 k2 _ => h v' w' (by rw [ic_append]; exact k1) k2
    intro j u hj
    have hjl : j < ys.length := by
      have := (List.getElem?_eq_some_iff.1 hj).1
      simpa [ic] using this
    have e1 := (hc j hjl).2
    rw [show (⟨b, off, none⟩ : Addr).add j = ⟨b, off + j, none⟩ from Addr.add_mid b off j, e1]
    simpa [ic, hjl] using hj
/-- what slices.Grow of nil answers -/
def GrowPost (w : World) (e : Ending) (w' : World) : Prop := ∃ v, e = .returned v ∧ w'.ownsRow w.heap.size 3 1 v 0 [] ∧ Below w.heap.size w w'
end Go.Proofs.YtgfmnolghbiedaaDoor
