/-
  Walks of layer 30: calls by value that the laws Truth, Minimal, Candidates and More use; perigeelaw30.without, perigeelaw30.candidates.
-/
import Derived.Test.YtgfmnolghbiedaaDoorK28
import Derived.Test.YtgfmnolghbiedaaDoorN6
import Derived.Laws.OwnMore
namespace Go.Proofs.YtgfmnolghbiedaaDoor
open Go.RowKit

theorem bits_val (x : Int) (n : Nat) (w : World) (h0 : 0 ≤ x) (h1 : x ≤ 65535) (hn : n ≤ 1000) (l : List Int) (hl : bitsN x n = l) : Calls Tryd.prog 38 #[.int .i64 x, .int .i64 n] w (IntsPost w l) :=
  (bits_calls x n w h0 h1 hn).mono fun _ _ h => row_ints hl h
theorem shown_val (n : Nat) (AG : Option Addr) (cG : Nat) (sh : List (List Int)) (A : Option Addr) (c : Nat) (us : List Int) (w : World)
    (hl : Lists w w.heap.size AG sh) (hn : sh.length ≤ 9223372036854775807) (h : Ints w w.heap.size A us) (hm : us.length ≤ 9223372036854775807) (hn' : n ≤ 1000) (l : List Int) (hl' : shown sh us n = l) :
    Calls Tryd.prog 26 #[.agg #[.int .i64 n, .slice AG sh.length cG], .slice A us.length c] w (IntsPost w l) :=
  (shown_calls n AG cG sh A c us w hl hn h hm hn').mono fun _ _ h => row_ints hl' h
/-- append(x, y...) of numbers, x a row of the call's own, y wherever it lies -/
theorem run_append_src {P : Program} {w : World} (t ty : TypeId) (base : Nat) (e : TypeId) (i : TypeInfo) (z : Value) (bytes : Nat) (ht : P.underlying t = some (.slice e)) (hi : P.info? e = some i) (hz : i.zero = some z)
    (hsize : i.size = 1) (hby : i.bytes = bytes) (hzs : z.cells.size = 1)
    (v : Value) (n : Nat) (xs : List Int) (hown : w.ownsRow base e 1 v n (ic xs)) (B : Nat) (u : Value) (ys : List Int) (hsrc : Src w B u ys)
    (h63 : n + ys.length ≤ maxLen) (hbytes : (n + ys.length) * bytes ≤ 140737488355328) (hbase : base ≤ w.heap.size) :
    ∃ v' w', (Builtin.append_ #[t, t] ty #[v, u]).run P w = .ok v' w' ∧ w'.ownsRow base e 1 v' (n + ys.length) (ic (xs ++ ys)) ∧ w.grownBy w' v.ownBlock := by
  rcases hsrc.out with ⟨hu, rfl⟩ | ⟨b, off, c, hu, hc⟩
  · subst hu
    exact ⟨v, w, run_append_owned_none (P := P) (w := w) base t ty e i 1 ht hi v n (ic xs) hown, by simpa using hown, World.grownBy.refl w _⟩
  · subst hu
    obtain ⟨v', w', hr, h2, h3, _⟩ := run_append_own (P := P) (w := w) base t ty e i z 1 bytes ht hi hz hsize hby hzs (by decide) v n (ic xs) hown ⟨b, off, none⟩ ys.length c (ic ys) (by simp [ic]) (by
      intro j u hj
      have hjl : j < ys.length := by
        have := (List.getElem?_eq_some_iff.1 hj).1
        simpa [ic] using this
      have e1 := (hc j hjl).2
      rw [show (⟨b, off, none⟩ : Addr).add j = ⟨b, off + j, none⟩ from Addr.add_mid b off j, e1]
      simpa [ic, hjl] using hj) (ic_one _) h63 hbytes hbase
    exact ⟨v', w', hr, by rw [ic_append]; exact h2, h3⟩
/-- the same, at a step of a region that draws its order -/
theorem step_append_src {P : Program} {ops : Array Oper} {o : Oper} {a : Act} {w : World} {K : Act → World → Prop} {Q : Exit → Act → World → Prop} {E : Prop} (hgd : o.guard = none) (s x : Operand) (t : TypeId)
    (ho : o.op = .call { callee := .builtin .append, args := #[s, x], argTypes := #[t, t] })
    (base : Nat) (e : TypeId) (i : TypeInfo) (z : Value) (bytes : Nat) (ht : P.underlying t = some (.slice e)) (hi : P.info? e = some i) (hz : i.zero = some z)
    (hsize : i.size = 1) (hby : i.bytes = bytes) (hzs : z.cells.size = 1) (v : Value) (n : Nat) (xs : List Int) (hs : a.eval s = v) (hown : w.ownsRow base e 1 v n (ic xs))
    (B : Nat) (u : Value) (ys : List Int) (hx : a.eval x = u) (hsrc : Src w B u ys) (h63 : n + ys.length ≤ maxLen) (hbytes : (n + ys.length) * bytes ≤ 140737488355328) (hbase : base ≤ w.heap.size)
    (h : ∀ v' w', w'.ownsRow base e 1 v' (n + ys.length) (ic (xs ++ ys)) → w.grownBy w' v.ownBlock → K (a.put o.dst v') w') :
    if Region.wanted o (yielded ops a.tmps) = true then Oper.wp P o a w K Q else E := by
  have hw : Region.wanted o (yielded ops a.tmps) = true := by simp [Region.wanted, hgd]
  rw [if_pos hw]
  obtain ⟨v', w', hr, h1, h2⟩ := run_append_src (P := P) t o.type base e i z bytes ht hi hz hsize hby hzs v n xs hown B u ys hsrc h63 hbytes hbase
  unfold Oper.wp execOp
  simp only [ho, resolve, invoke, builtin, Sem.run_bind, Sem.run_pure, Result.andThen_ok, List.map_toArray, List.map_cons, List.map_nil, hs, hx, hr]
  exact h v' w' h1 h2
theorem owns_empty_at {X : World} {base r : Nat} (w : World) (hX : w.alloc (.cells #[] 3) = X) (hr : w.heap.size = r) (hb : base ≤ w.heap.size) : X.ownsRow base 3 1 (.slice (some ⟨r, 0, none⟩) 0 0) 0 (ic []) := by
  subst hX; subst hr
  exact ⟨rfl, .inr ⟨w.heap.size, 0, #[], rfl, hb, heap_alloc_new w _, Nat.le_refl _, Nat.zero_le _, rfl, rfl⟩⟩
end Go.Proofs.YtgfmnolghbiedaaDoor
