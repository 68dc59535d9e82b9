/-
  Walks of layer 30: slices.Clone; the sets that diagnose.extend hands out: the elements, what an iterator leaves as it lay, extend without further elements.
-/
import Derived.Test.YtgfmnolghbiedaaDoorK4
import Derived.Lib.BufferMore
namespace Go.Proofs.YtgfmnolghbiedaaDoor
open Go.RowKit Go.Shelf
attribute [local go_sem] Oper.semAt_some

theorem append_row {P : Program} {w : World} {ops : Array Oper} {rest : List Oper} {o : Oper} {a : Act} {Q : Exit → Act → World → Prop} (hgd : o.guard = none) (s x : Operand) (t : TypeId)
    (ho : o.op = .call { callee := .builtin .append, args := #[s, x], argTypes := #[t, t] })
    (base : Nat) (e : TypeId) (i : TypeInfo) (z : Value) (size bytes : Nat) (ht : P.underlying t = some (.slice e)) (hi : P.info? e = some i) (hz : i.zero = some z)
    (hsize : i.size = size) (hby : i.bytes = bytes) (hzs : z.cells.size = size) (hsz : 0 < size)
    (v : Value) (n : Nat) (xs : List Value) (hs : a.eval s = v) (hown : w.ownsRow base e size v n xs)
    (base' : Nat) (u : Value) (m : Nat) (ys : List Value) (hx : a.eval x = u) (hown' : w.ownsRow base' e size u m ys) (h1 : ∀ q ∈ ys, q.oneCell' = true)
    (h63 : n + m ≤ maxLen) (hbytes : (n + m) * bytes ≤ 140737488355328) (hbase : base ≤ w.heap.size)
    (h : ∀ v' w', w'.ownsRow base e size v' (n + m) (xs ++ ys) → w.grownBy w' v.ownBlock → wpList P ops Q rest (a.put o.dst v') w') : wpList P ops Q (o :: rest) a w := by
  rcases hown'.2 with ⟨hu, hm0⟩ | ⟨g, cap, _, hu, _⟩
  · subst hm0
    have hy : ys = [] := List.eq_nil_of_length_eq_zero (by have := hown'.1; omega)
    subst hy
    refine wpList_append_own_none hgd s x t ho base e i size ht hi v n xs hs hown (hx.trans hu) (h v w ?_ (World.grownBy.refl w _))
    simpa using hown
  · refine wpList_append_own w hgd s x t ho base e i z size bytes ht hi hz hsize hby hzs hsz v n xs hs hown ⟨g, 0, none⟩ m cap ys (hx.trans hu) hown'.1 (hown'.cells (by rw [hu]; rfl)) h1 h63 hbytes hbase fun v' w' k1 k2 _ => h v' w' k1 k2
theorem owns_empty (w : World) (base : Nat) (hb : base ≤ w.heap.size) (e : TypeId) (s : Nat) : (w.alloc (.cells #[] e)).ownsRow base e s (.slice (some ⟨w.heap.size, 0, none⟩) 0 0) 0 [] :=
  ⟨by simp, .inr ⟨w.heap.size, 0, #[], rfl, hb, heap_alloc_new w _, Nat.le_refl _, Nat.zero_le _, by simp, by simp⟩⟩
theorem clone_calls (B : Nat) (v : Value) (l : List Int) (w : World) (h : w.ownsRow B 3 1 v l.length (ic l)) (hm : l.length ≤ 1000) :
    Calls Tryd.prog 61 #[v] w (RowPost w l) := by
  obtain ⟨i0, hi, hz0, hz1, hz2⟩ := info_parts Tryd.infoInt
  rcases h.2 with ⟨rfl, h0⟩ | ⟨g, cap, cur, rfl, hg, hh, _⟩
  · have hl := List.eq_nil_of_length_eq_zero h0
    subst hl
    have hnil : ∀ W, (binOp .eql 32 (.slice none 0 0) (.slice none 0 0)).run Tryd.prog W = .ok (.bool true) W := fun W => Lib.run_eql_slice_nil_nil W _ _ Tryd.underlying32
    simp only [List.length_nil] at *
    go_enter Tryd.func61, Tryd.ntmps61
    go_wp2
    go_ret
    exact ⟨none, 0, rfl, World.ownsRow_nil _ _ _ _, Below.refl _ _⟩
  · have Hh := bx hh
    clear hh
    have hnil : ∀ W, (binOp .eql 32 (.slice (some ⟨g, 0, none⟩) l.length cap) (.slice none 0 0)).run Tryd.prog W = .ok (.bool false) W := fun W => Lib.run_eql_slice_some_nil W _ _ _ Tryd.underlying32
    go_enter Tryd.func61, Tryd.ntmps61
    go_wp2_with (at_builtin; refine append_row rfl _ _ 32 rfl w.heap.size 3 i0 (.int .i64 0) 1 8 Tryd.underlying32 hi hz0 hz1 hz2 rfl (by decide) (.slice (some ⟨w.heap.size, 0, none⟩) 0 0) 0 [] rfl (owns_empty w _ (Nat.le_refl _) _ _) B (.slice (some ⟨g, 0, none⟩) l.length cap) l.length (ic l) rfl (h.alloc _) (ic_one l) (by unfold maxLen; omega) (by omega) (by simp) ?_; intro v2 w2 o2 g2)
    obtain ⟨A2, c2, rfl⟩ := slice_form o2
    go_ret
    have hb : Below w.heap.size w w2 := ((Below.refl _ w).alloc (Nat.le_refl _) _).grown g2 (by simp) (fun k hk => by simp [Value.ownBlock] at hk; omega)
    simp only [Nat.zero_add, List.nil_append] at o2
    exact ⟨A2, c2, ret_slice (by simp), o2, hb⟩

/-- a set that is handed out: a slice -/
structure Slc where
  A : Option Addr
  c : Nat
  s : List Int
def Slc.v (x : Slc) : Value := .slice x.A x.s.length x.c
/-- what is known of a set where it is handed out -/
def ElS (T : List (List Int)) (B : Nat) (pre : List Slc) (x : Slc) (X : World) : Prop := (pre ++ [x]).map (·.s) <+: T ∧ X.ownsRow B 3 1 x.v x.s.length (ic x.s)
/-- the blocks that the iterator writes: rows of numbers, of no set handed out -/
def RowS (B : Nat) (pre : List Slc) (r : Nat) (X : World) : Prop := B ≤ r ∧ (∀ y ∈ pre, y.v.ownBlock ≠ some r) ∧ ∃ cs fz, X.heap[r]? = some (.cells cs 3 fz)
/-- rows of numbers stand, but for one block -/
structure KInt (row : Option Nat) (X Y : World) : Prop where
  size : X.heap.size ≤ Y.heap.size
  same : ∀ b cs fz, X.heap[b]? = some (.cells cs 3 fz) → some b ≠ row → Y.heap[b]? = some (.cells cs 3 fz)
theorem KInt.refl (row : Option Nat) (X : World) : KInt row X X := ⟨Nat.le_refl _, fun _ _ _ h _ => h⟩
theorem KInt.trans {row : Option Nat} {X Y Z : World} (h : KInt row X Y) (k : KInt row Y Z) : KInt row X Z := ⟨Nat.le_trans h.size k.size, fun b cs fz hb hr => k.same b cs fz (h.same b cs fz hb hr) hr⟩
theorem KInt.of_grown {row : Option Nat} {X Y : World} (h : X.grownBy Y row) : KInt row X Y := ⟨h.size, fun b _ _ hb hr => (h.block b (Array.getElem?_eq_some_iff.1 hb).1 hr).trans hb⟩
theorem KInt.but {X Y : World} (h : KInt none X Y) (row : Option Nat) : KInt row X Y := ⟨h.size, fun b cs fz hb _ => h.same b cs fz hb (by simp)⟩
theorem KInt.owns {row : Option Nat} {X Y : World} {B n : Nat} {v : Value} {xs : List Value} (h : KInt row X Y) (ho : X.ownsRow B 3 1 v n xs) (hne : ∀ r, v.ownBlock = some r → row ≠ some r) : Y.ownsRow B 3 1 v n xs := by
  refine ⟨ho.1, ?_⟩
  rcases ho.2 with h0 | ⟨g, cap, cur, rfl, hg, hh, r⟩
  · exact .inl h0
  · exact .inr ⟨g, cap, cur, rfl, hg, h.same g cur (0, 0) hh (fun e => hne g rfl e.symm), r⟩
/-- what extend answers: it hands out hd with each set; J: what the rounds kept -/
def ExtPost (J Jx : List Slc → World → Prop) (B : Nat) (v : Value) (hd : List Int) (sets : List (List Int)) (pre : List Slc) (X : World) (e : Ending) (Y : World) : Prop :=
  (e = .returned (.bool true) ∧ ∃ ys : List Slc, ys.map (·.s) = sets.map (hd ++ ·) ∧ J (pre ++ ys) Y ∧ KInt v.ownBlock X Y ∧ Y.ownsRow B 3 1 v hd.length (ic hd) ∧ ∀ y ∈ ys, ∀ r, y.v.ownBlock = some r → X.heap.size ≤ r ∧ r < Y.heap.size) ∨
  (e = .returned (.bool false) ∧ ∃ ys : List Slc, ys.map (·.s) <+: sets.map (hd ++ ·) ∧ Jx (pre ++ ys) Y)
theorem wide_n {n : Nat} : Fence.wide.depth.isSome = true → 1 ≤ n := fun h => by cases h
theorem own_lt {X : World} {B n : Nat} {e : TypeId} {size : Nat} {v : Value} {xs : List Value} (h : X.ownsRow B e size v n xs) {r : Nat} (hr : v.ownBlock = some r) : B ≤ r ∧ r < X.heap.size := h.lt r hr
theorem extend_zero (T : List (List Int)) (lp B : Nat) (J Jx : List Slc → World → Prop)
    (hJ : ∀ pre X Y row, J pre X → X.grownBy Y row → (∀ r, row = some r → RowS B pre r X) → J pre Y)
    (hY : ∀ m pre x X, J pre X → ElS T B pre x X → YieldAt Fence.wide m Tryd.prog lp #[x.v] X fun e Y =>
      (e = .returned (.bool true) ∧ J (pre ++ [x]) Y ∧ KInt none X Y) ∨ (e = .returned (.bool false) ∧ Jx (pre ++ [x]) Y))
    (v : Value) (hd : List Int) (AL : Option Addr) (nL cL : Nat) (pre : List Slc) (X : World) (hv : X.ownsRow B 3 1 v hd.length (ic hd)) (hB : B ≤ X.heap.size) (hm : hd.length ≤ 100) (h0 : J pre X) (hT : pre.map (·.s) ++ [hd] <+: T) :
    Calls Tryd.prog 55 #[v, .slice AL nL cL, .int .i64 0, .func (.yield lp) #[] #[]] X (ExtPost J Jx B v hd [[]] pre X) := by
  refine (callsIn_wide (n := 3)).1 ?_
  refine callsIn_of_wp Tryd.func55 rfl trivial ?_ rfl
  simp only [Tryd.ntmps55, List.size_toArray, List.length_cons, List.length_nil, Nat.reduceAdd, Nat.reduceSub, Array.replicate_succ, Array.replicate_zero, List.push_toArray, List.append_toArray, List.nil_append, List.cons_append]
  gi_wp2_with (first | (refine ⟨trivial, ?_⟩; gi_at_call 61; refine (callsIn_wide.2 (clone_calls B v hd X hv (by omega))).mono ?_; rintro e w1 ⟨A1, c1, rfl, o1, hb1⟩) | gi_in)
  have hJ1 : J pre w1 := hJ pre X w1 none h0 (grown_of_below hb1 none) (fun r e => by cases e)
  obtain ⟨fn, tmps, assign, body, hy, hR⟩ := hY _ pre ⟨A1, c1, hd⟩ w1 hJ1 ⟨by simpa using hT, own_base o1 hB⟩
  dsimp only [Slc.v] at hy
  rw [hy]
  refine ⟨wide_n, hR.mono ?_⟩
  rintro e Y (⟨rfl, hJ2, hk2⟩ | ⟨rfl, hx2⟩)
  · have hfr : ∀ y ∈ [(⟨A1, c1, hd⟩ : Slc)], ∀ r, y.v.ownBlock = some r → X.heap.size ≤ r ∧ r < Y.heap.size := by
      intro y hy r hr
      obtain rfl := List.mem_singleton.1 hy
      obtain ⟨p, q⟩ := own_lt o1 hr
      exact ⟨p, Nat.lt_of_lt_of_le q hk2.size⟩
    have hkx : KInt v.ownBlock X Y := (KInt.of_grown (grown_of_below hb1 v.ownBlock)).trans (hk2.but _)
    have hvY : Y.ownsRow B 3 1 v hd.length (ic hd) := hk2.owns (hv.kept (grown_of_below hb1 none) (by cases v.ownBlock <;> simp)) (fun r _ => by simp)
    gi_wp2
    go_ret
    exact .inl ⟨rfl, [⟨A1, c1, hd⟩], by simp, hJ2, hkx, hvY, hfr⟩
  · gi_wp2
    go_ret
    exact .inr ⟨rfl, [⟨A1, c1, hd⟩], by simp, hx2⟩
end Go.Proofs.YtgfmnolghbiedaaDoor
