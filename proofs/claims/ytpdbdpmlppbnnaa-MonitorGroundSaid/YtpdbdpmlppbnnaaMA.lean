/-
  Monitors, walked and in plain Lean, joined from the texts B1, M1, W1, W2, W3, W4, W5, W6, W7, W8, W9, W10.
-/
import Derived.Test.YtpdbdpmlppbnnaaProg
import Derived.WalkKit
import Derived.Outline
import Derived.WalkLawsBesides
import Derived.BigQuiet
import Derived.Deep.QuietTactic
import Derived.Deep.RegionHeld3
import Derived.Maps.AppendAt
import Derived.Laws.AppendOwnNone
import Derived.Deep.AppendLies
import Derived.StillTailTactics
import Derived.Lib.BufferMore
import Derived.Deep.DeepAppendRoom
import Derived.Deep.RegionLaw
import Derived.IntWalk
import Derived.Laws.OwnMore
import Derived.Below
import Derived.Carry
import Derived.Deep.Slices
import Derived.Deep.Fields
import Derived.WalkMore
import Derived.Shelf.Abstract
import Derived.Shelf.RegionOpen
import Derived.Deep.Upon
import Derived.Sort.LotA
import Derived.Sort.Row
import Derived.BigGuard
import Derived.BigCall
import Derived.CellFam
import Derived.Deep.Draws
import Derived.Lib.Strings
import Derived.Lib.Slices
import Derived.Lib.Small
import Derived.Lib.Walk
import Derived.Lib.BitFns
import Derived.Laws.IdiomCopy
import Derived.Lib.SliceRun
namespace Go.Proofs.Ytpdbdpmlppbnnaa.Mo
open Go.RowKit Go.Shelf

/-- a fact hidden from the walk -/
structure Bx (p : Prop) : Prop where
  out : p
theorem bx {p : Prop} (h : p) : Bx p := ⟨h⟩
theorem retv {a b : Value} (h : a = b) : Ending.returned a = Ending.returned b := by rw [h]
theorem ret_int {k : IntKind} {a b : Int} (h : a = b) : Ending.returned (.int k a) = Ending.returned (.int k b) := by rw [h]
theorem ret_bool {a b : Bool} (h : a = b) : Ending.returned (.bool a) = Ending.returned (.bool b) := by rw [h]
theorem ret_slice {A : Option Addr} {n m c : Nat} (h : n = m) : Ending.returned (.slice A n c) = Ending.returned (.slice A m c) := by rw [h]
theorem below_drewN {B : Nat} {W W' : World} (h : Below B W W') (n : Nat) : Below B W (W'.drewN n) := by
  induction n with
  | zero => exact h
  | succ n ih => exact ih.drew
theorem size_drewN (w : World) (n : Nat) : (w.drewN n).heap.size = w.heap.size := by
  induction n with
  | zero => rfl
  | succ n ih => exact ih
theorem drewN_add (w : World) (m n : Nat) : (w.drewN m).drewN n = w.drewN (m + n) := by
  induction n with
  | zero => rfl
  | succ n ih => show ((w.drewN m).drewN n).drew = _; rw [ih]; rfl
theorem heap_drewN (W : World) (q B : Nat) : (W.drewN q).heap[B]? = W.heap[B]? := by rw [show (W.drewN q).heap = W.heap by simp]
/-- nothing of the world W0 has turned -/
abbrev From (W0 W : World) : Prop := Below W0.heap.size W0 W
theorem From.refl (W : World) : From W W := Below.refl _ _
theorem From.trans {W0 W W' : World} (h : From W0 W) (k : From W W') : From W0 W' := Below.trans h (k.mono h.size)
theorem From.drew {W0 W : World} (h : From W0 W) : From W0 W.drew := Below.drew h
theorem From.alloc {W0 W : World} (h : From W0 W) (o : Obj) : From W0 (W.alloc o) := Below.alloc h h.size o
theorem From.drewN {W0 W : World} (h : From W0 W) (m : Nat) : From W0 (W.drewN m) := below_drewN h m
theorem frozen_alloc_lt {w : World} {a : Addr} (o : Obj) (h : a.block < w.heap.size) : (w.alloc o).frozen? a = w.frozen? a := ((Below.refl w.heap.size w).alloc (Nat.le_refl _) o).frozen h
theorem cell_alloc_lt {w : World} {a : Addr} (o : Obj) (h : a.block < w.heap.size) : (w.alloc o).cell? a = w.cell? a := ((Below.refl w.heap.size w).alloc (Nat.le_refl _) o).cell h
theorem cell_alloc {w : World} {a : Addr} {u : Value} (h : w.cell? a = some u) (o : Obj) : (w.alloc o).cell? a = some u := (cell_alloc_lt o (World.block_lt_of_cell? w _ h)).trans h
theorem From.cell {W0 W : World} (h : From W0 W) {a : Addr} {u : Value} (hc : W0.cell? a = some u) : W.cell? a = some u := (Below.cell h (World.block_lt_of_cell? W0 _ hc)).trans hc
theorem From.heap {W0 W : World} (h : From W0 W) {b : Nat} {o : Obj} (hc : W0.heap[b]? = some o) : W.heap[b]? = some o := (h.block b (Array.getElem?_eq_some_iff.1 hc).1).trans hc

/-- the slice v holds n elements, in the cells cs, below block B -/
structure Sl (w : World) (B : Nat) (v : Value) (n : Nat) (cs : List Value) : Prop where
  out : (v = .slice none 0 0 ∧ n = 0 ∧ cs = []) ∨ ∃ a c, v = .slice (some a) n c ∧ ∀ j u, cs[j]? = some u → ∃ b off, a = ⟨b, off, none⟩ ∧ b < B ∧ w.cell? ⟨b, off + j, none⟩ = some u
theorem Sl.below {w w' : World} {B : Nat} {v : Value} {n : Nat} {cs : List Value} (h : Sl w B v n cs) (hb : Below B w w') : Sl w' B v n cs := by
  rcases h.out with h | ⟨a, c, e, h⟩
  · exact ⟨.inl h⟩
  · refine ⟨.inr ⟨a, c, e, fun j u hj => ?_⟩⟩
    obtain ⟨b, off, e1, e2, e3⟩ := h j u hj
    exact ⟨b, off, e1, e2, (hb.cell (p := ⟨b, _, none⟩) e2).trans e3⟩
theorem Sl.more {w : World} {B B' : Nat} {v : Value} {n : Nat} {cs : List Value} (h : Sl w B v n cs) (hB : B ≤ B') : Sl w B' v n cs := by
  rcases h.out with h | ⟨a, c, e, h⟩
  · exact ⟨.inl h⟩
  · refine ⟨.inr ⟨a, c, e, fun j u hj => ?_⟩⟩
    obtain ⟨b, off, e1, e2, e3⟩ := h j u hj
    exact ⟨b, off, e1, by omega, e3⟩
theorem Sl.from {w w' : World} {v : Value} {n : Nat} {cs : List Value} (h : Sl w w.heap.size v n cs) (hb : From w w') : Sl w' w'.heap.size v n cs := (h.below hb).more (Below.size hb)
theorem Sl.form {w : World} {B : Nat} {v : Value} {n : Nat} {cs : List Value} (h : Sl w B v n cs) : ∃ A c, v = .slice A n c := by
  rcases h.out with ⟨rfl, rfl, rfl⟩ | ⟨a, c, rfl, h⟩
  · exact ⟨_, _, rfl⟩
  · exact ⟨_, _, rfl⟩
theorem Sl.at_ {w : World} {B m n c : Nat} {A : Option Addr} {cs : List Value} (h : Sl w B (.slice A m c) n cs) {j : Nat} {u : Value} (hj : cs[j]? = some u) : ∃ b off, A = some ⟨b, off, none⟩ ∧ b < B ∧ w.cell? ⟨b, off + j, none⟩ = some u := by
  rcases h.out with ⟨_, _, rfl⟩ | ⟨a, c, e, h⟩
  · simp at hj
  · injection e with e1 _ _
    obtain ⟨b, off, e2, e3⟩ := h j u hj
    exact ⟨b, off, by rw [e1, e2], e3⟩
theorem Sl.nil (w : World) (B : Nat) : Sl w B (.slice none 0 0) 0 [] := ⟨.inl ⟨rfl, rfl, rfl⟩⟩
theorem sl_new (w : World) (cs : List Value) (t : TypeId) (n c : Nat) : Sl (w.alloc (.cells cs.toArray t)) (w.heap.size + 1) (.slice (some ⟨w.heap.size, 0, none⟩) n c) n cs := by
  refine ⟨.inr ⟨_, _, rfl, fun j u hj => ⟨w.heap.size, 0, rfl, by omega, ?_⟩⟩⟩
  rw [World.cell?_alloc_new, Nat.zero_add]
  simpa using hj
theorem sl_of_own {w : World} {base size n : Nat} {e : TypeId} {v : Value} {cs : List Value} (h : w.ownsRow base e size v n cs) : Sl w w.heap.size v n cs := by
  rcases h.2 with ⟨rfl, rfl⟩ | ⟨g, cap, cur, rfl, hg, hh, r⟩
  · exact ⟨.inl ⟨rfl, rfl, List.eq_nil_of_length_eq_zero (by have := h.1; omega)⟩⟩
  · refine ⟨.inr ⟨_, _, rfl, fun j u hj => ⟨g, 0, rfl, (Array.getElem?_eq_some_iff.1 hh).1, ?_⟩⟩⟩
    have := h.cells (g := g) rfl j u hj
    rwa [Addr.add_mid] at this
/-- the cells of numbers, of truth values, of bytes -/
def ic (l : List Int) : List Value := l.map fun x => .int .i64 x
def bc (l : List Bool) : List Value := l.map .bool
def yc (l : List Int) : List Value := l.map fun x => .int .u8 x
theorem ic_len (l : List Int) : (ic l).length = l.length := by simp [ic]
theorem bc_len (l : List Bool) : (bc l).length = l.length := by simp [bc]
theorem yc_len (l : List Int) : (yc l).length = l.length := by simp [yc]
theorem ic_append (l m : List Int) : ic (l ++ m) = ic l ++ ic m := by simp [ic]
theorem bc_append (l m : List Bool) : bc (l ++ m) = bc l ++ bc m := by simp [bc]
theorem yc_append (l m : List Int) : yc (l ++ m) = yc l ++ yc m := by simp [yc]
theorem ic_one (l : List Int) : ∀ u ∈ ic l, u.oneCell' = true := by simp [ic, Value.oneCell']
theorem bc_one (l : List Bool) : ∀ u ∈ bc l, u.oneCell' = true := by
  intro u hu
  obtain ⟨b, _, rfl⟩ := List.mem_map.1 hu
  rfl
theorem yc_one (l : List Int) : ∀ u ∈ yc l, u.oneCell' = true := by simp [yc, Value.oneCell']
/-- numbers, truth values, bytes in memory -/
abbrev Ints (w : World) (v : Value) (l : List Int) : Prop := Sl w w.heap.size v l.length (ic l)
abbrev Bools (w : World) (v : Value) (l : List Bool) : Prop := Sl w w.heap.size v l.length (bc l)
abbrev Byts (w : World) (v : Value) (l : List Int) : Prop := Sl w w.heap.size v l.length (yc l)
theorem ints_at {w : World} {B m n c : Nat} {A : Option Addr} {l : List Int} (h : Sl w B (.slice A m c) n (ic l)) {k : Nat} (hk : k < l.length) : ∃ b off, A = some ⟨b, off, none⟩ ∧ b < B ∧ w.cell? ⟨b, off + k, none⟩ = some (.int .i64 l[k]) :=
  h.at_ (by simp [ic, hk])
theorem bools_at {w : World} {B m n c : Nat} {A : Option Addr} {l : List Bool} (h : Sl w B (.slice A m c) n (bc l)) {k : Nat} (hk : k < l.length) : ∃ b off, A = some ⟨b, off, none⟩ ∧ b < B ∧ w.cell? ⟨b, off + k, none⟩ = some (.bool l[k]) :=
  h.at_ (by simp [bc, hk])
theorem byts_at {w : World} {B m n c : Nat} {A : Option Addr} {l : List Int} (h : Sl w B (.slice A m c) n (yc l)) {k : Nat} (hk : k < l.length) : ∃ b off, A = some ⟨b, off, none⟩ ∧ b < B ∧ w.cell? ⟨b, off + k, none⟩ = some (.int .u8 l[k]) :=
  h.at_ (by simp [yc, hk])
theorem ints_nil (w : World) : Ints w (.slice none 0 0) [] := Sl.nil _ _

theorem grown_of_below {W W' : World} (h : Below W.heap.size W W') (row : Option Nat) : W.grownBy W' row := ⟨h.os, h.tape, h.output, h.size, fun i hi _ => h.block i hi⟩
theorem slice_form {w : World} {base size n : Nat} {e : TypeId} {v : Value} {xs : List Value} (h : w.ownsRow base e size v n xs) : ∃ A c, v = .slice A n c := by
  rcases h.2 with ⟨rfl, rfl⟩ | ⟨g, cap, _, rfl, _⟩
  · exact ⟨_, _, rfl⟩
  · exact ⟨_, _, rfl⟩
theorem own_base {w : World} {base base' size n : Nat} {e : TypeId} {v : Value} {xs : List Value} (h : w.ownsRow base e size v n xs) (hb : base' ≤ base) : w.ownsRow base' e size v n xs := by
  refine ⟨h.1, ?_⟩
  rcases h.2 with h | ⟨g, cap, cur, hv, hg, r⟩
  · exact .inl h
  · exact .inr ⟨g, cap, cur, hv, Nat.le_trans hb hg, r⟩
theorem own_setCell {w : World} {base size n : Nat} {e : TypeId} {v : Value} {xs : List Value} (h : w.ownsRow base e size v n xs) {a : Addr} (ha : a.block < base) (u : Value) : (w.setCell a u).ownsRow base e size v n xs := ownsRow_setCell_below h ha u
theorem own_call {W W' : World} {B n size : Nat} {e : TypeId} {v : Value} {xs : List Value} (h : W.ownsRow B e size v n xs) (hb : From W W') : W'.ownsRow B e size v n xs := h.kept (grown_of_below hb none) (by cases v.ownBlock <;> simp)
theorem own_drewN {W : World} {base size n : Nat} {e : TypeId} {v : Value} {xs : List Value} (h : W.ownsRow base e size v n xs) (q : Nat) : (W.drewN q).ownsRow base e size v n xs :=
  own_call h (From.drewN (From.refl _) q)
theorem own_lt {X : World} {B n : Nat} {e : TypeId} {size : Nat} {v : Value} {xs : List Value} (h : X.ownsRow B e size v n xs) {r : Nat} (hr : v.ownBlock = some r) : B ≤ r ∧ r < X.heap.size := h.lt r hr
theorem own_nil (w : World) (base : Nat) (e : TypeId) (size : Nat) : w.ownsRow base e size (.slice none 0 0) 0 [] := World.ownsRow_nil _ _ _ _
theorem owns_empty (w : World) (base : Nat) (hb : base ≤ w.heap.size) (e : TypeId) (s : Nat) : (w.alloc (.cells #[] e)).ownsRow base e s (.slice (some ⟨w.heap.size, 0, none⟩) 0 0) 0 [] :=
  ⟨by simp, .inr ⟨w.heap.size, 0, #[], rfl, hb, heap_alloc_new w _, Nat.le_refl _, Nat.zero_le _, by simp, by simp⟩⟩
theorem own_new (w : World) (base : Nat) (hb : base ≤ w.heap.size) (e : TypeId) (size n : Nat) (cs : List Value) (hn : cs.length = n * size) (hm : n ≤ maxLen) : (w.alloc (.cells cs.toArray e)).ownsRow base e size (.slice (some ⟨w.heap.size, 0, none⟩) n n) n cs :=
  ⟨hn, .inr ⟨w.heap.size, n, cs.toArray, rfl, hb, heap_alloc_new w _, Nat.le_refl _, hm, by simpa using hn, by simp [← hn]⟩⟩
theorem From.app {W w w' : World} {base size n : Nat} {e : TypeId} {v : Value} {xs : List Value} (h : From W w) (hown : w.ownsRow base e size v n xs) (hb : W.heap.size ≤ base) (g : w.grownBy w' v.ownBlock) : From W w' :=
  Below.grown h g h.size (fun k hk => Nat.le_trans hb (hown.lt k hk).1)

/-- what append needs to know of a slice's type -/
structure ElT (P : Program) (t e : TypeId) (z : Value) (size bytes : Nat) : Prop where
  und : P.underlying t = some (.slice e)
  info : ∃ i : TypeInfo, P.info? e = some i ∧ i.zero = some z ∧ i.size = size ∧ i.bytes = bytes
  zs : z.cells.size = size
  pos : 0 < size
set_option maxRecDepth 100000 in
/-- append(x, y...): x a row of one's own, y wherever it lies -/
theorem run_app {P : Program} {w : World} {t e : TypeId} {z : Value} {size bytes : Nat} (E : ElT P t e z size bytes) (ty : TypeId) {base n : Nat} {v : Value} {xs : List Value} (hown : w.ownsRow base e size v n xs)
    {B m : Nat} {u : Value} {ys : List Value} (hsrc : Sl w B u m ys) (hm : ys.length = m * size) (h1 : ∀ q ∈ ys, q.oneCell' = true) (hbytes : (n + m) * bytes ≤ 140737488355328) (h63 : n + m ≤ maxLen) (hbase : base ≤ w.heap.size) :
    ∃ A c w', (Builtin.append_ #[t, t] ty #[v, u]).run P w = .ok (.slice A (n + m) c) w' ∧ w'.ownsRow base e size (.slice A (n + m) c) (n + m) (xs ++ ys) ∧ w.grownBy w' v.ownBlock ∧ (∀ r, (Value.slice A (n + m) c).ownBlock = some r → v.ownBlock = some r ∨ w.heap.size ≤ r) := by
  obtain ⟨ht, ⟨i, hi, hz, hsize, hby⟩, hzs, hpos⟩ := E
  rcases hsrc.out with ⟨rfl, rfl, rfl⟩ | ⟨a, c0, rfl, hc⟩
  · have hr := run_append_owned_none (P := P) (w := w) base t ty e i size ht hi v n xs hown
    obtain ⟨A, c, rfl⟩ := slice_form hown
    exact ⟨A, c, w, hr, by simpa using hown, World.grownBy.refl w _, fun r hr => .inl hr⟩
  · have hnews : ∀ j q, ys[j]? = some q → w.cell? (a.add j) = some q := by
      intro j q hj
      obtain ⟨b, off, rfl, _, hcc⟩ := hc j q hj
      rw [Addr.add_mid]; exact hcc
    rcases hown.2 with ⟨rfl, rfl⟩ | ⟨g, cap, cur, rfl, hg, hh, hnc, hcm, hcs, htk⟩
    · obtain rfl : xs = [] := List.eq_nil_of_length_eq_zero (by have := hown.1; omega)
      obtain ⟨v', w', hrun, r1, r2, _⟩ := run_append_own (P := P) w w.heap.size t ty e i z size bytes ht hi hz hsize hby hzs hpos (.slice none 0 0) 0 [] (World.ownsRow_nil w _ e size) a m c0 ys hm hnews h1 h63 hbytes (Nat.le_refl _)
      obtain ⟨A, c, rfl⟩ := slice_form r1
      exact ⟨A, c, w', hrun, own_base r1 hbase, r2, fun r hr => .inr (own_lt r1 hr).1⟩
    · by_cases hr : n + m ≤ cap
      · obtain ⟨w', hrun, r1, r2⟩ := run_append_own_spare (P := P) w base t ty e i size ht hi hsize g n cap xs hown a m c0 ys hm hnews h1 hr
        exact ⟨_, _, w', hrun, r1, r2, fun r hr => .inl hr⟩
      · obtain ⟨v', w', hrun, r1, r2⟩ := run_append_arg_grows (P := P) w t ty e i z size bytes ht hi hz hsize hby hzs hpos ⟨g, 0, none⟩ n cap xs hown.1 (hown.cells (g := g) rfl) a m c0 ys hm hnews (by omega) h63 hbytes
        obtain ⟨A, c, rfl⟩ := slice_form r1
        exact ⟨A, c, w', hrun, own_base r1 hbase, ⟨r2.os, r2.tape, r2.output, r2.size, fun k hk _ => r2.block k hk (by simp)⟩, fun r hr => .inr (own_lt r1 hr).1⟩
set_option maxRecDepth 100000 in
theorem app_sl {P : Program} {w : World} {ops : Array Oper} {rest : List Oper} {o : Oper} {a : Act} {Q : Exit → Act → World → Prop} (hgd : o.guard = none) (s x : Operand) (t : TypeId)
    (ho : o.op = .call { callee := .builtin .append, args := #[s, x], argTypes := #[t, t] }) {e : TypeId} {z : Value} {size bytes : Nat} (E : ElT P t e z size bytes)
    {base n : Nat} {v : Value} {xs : List Value} (hs : a.eval s = v) (hown : w.ownsRow base e size v n xs) {B : Nat} {u : Value} (m : Nat) (ys : List Value) (hx : a.eval x = u) (hsrc : Sl w B u m ys)
    (hm : ys.length = m * size) (h1 : ∀ q ∈ ys, q.oneCell' = true) (hbytes : (n + m) * bytes ≤ 140737488355328) (h63 : n + m ≤ maxLen) (hbase : base ≤ w.heap.size)
    (h : ∀ A c w', w'.ownsRow base e size (.slice A (n + m) c) (n + m) (xs ++ ys) → w.grownBy w' v.ownBlock → (∀ r, (Value.slice A (n + m) c).ownBlock = some r → v.ownBlock = some r ∨ w.heap.size ≤ r) → wpList P ops Q rest (a.put o.dst (.slice A (n + m) c)) w') : wpList P ops Q (o :: rest) a w := by
  refine wpList_plain hgd fun K hK => ?_
  obtain ⟨A, c, w', hr, r1, r2, r3⟩ := run_app E o.type hown hsrc hm h1 hbytes h63 hbase
  unfold Oper.wp execOp
  simp only [ho, resolve, invoke, builtin, Sem.run_bind, Sem.run_pure, Result.andThen_ok, List.map_toArray, List.map_cons, List.map_nil, hs, hx, hr]
  exact hK _ _ (h A c w' r1 r2 r3)
set_option maxRecDepth 100000 in
theorem step_sl {P : Program} {ops : Array Oper} {o : Oper} {a : Act} {w : World} {K : Act → World → Prop} {Q : Exit → Act → World → Prop} {C : Prop} (hgd : o.guard = none) (s x : Operand) (t : TypeId)
    (ho : o.op = .call { callee := .builtin .append, args := #[s, x], argTypes := #[t, t] }) {e : TypeId} {z : Value} {size bytes : Nat} (E : ElT P t e z size bytes)
    {base n : Nat} {v : Value} {xs : List Value} (hs : a.eval s = v) (hown : w.ownsRow base e size v n xs) {B : Nat} {u : Value} (m : Nat) (ys : List Value) (hx : a.eval x = u) (hsrc : Sl w B u m ys)
    (hm : ys.length = m * size) (h1 : ∀ q ∈ ys, q.oneCell' = true) (hbytes : (n + m) * bytes ≤ 140737488355328) (h63 : n + m ≤ maxLen) (hbase : base ≤ w.heap.size)
    (h : ∀ A c w', w'.ownsRow base e size (.slice A (n + m) c) (n + m) (xs ++ ys) → w.grownBy w' v.ownBlock → (∀ r, (Value.slice A (n + m) c).ownBlock = some r → v.ownBlock = some r ∨ w.heap.size ≤ r) → K (a.put o.dst (.slice A (n + m) c)) w') :
    if Region.wanted o (yielded ops a.tmps) = true then Oper.wp P o a w K Q else C := by
  have hw : Region.wanted o (yielded ops a.tmps) = true := by simp [Region.wanted, hgd]
  rw [if_pos hw]
  obtain ⟨A, c, w', hr, r1, r2, r3⟩ := run_app E o.type hown hsrc hm h1 hbytes h63 hbase
  unfold Oper.wp execOp
  simp only [ho, resolve, invoke, builtin, Sem.run_bind, Sem.run_pure, Result.andThen_ok, List.map_toArray, List.map_cons, List.map_nil, hs, hx, hr]
  exact h A c w' r1 r2 r3
theorem Try.elInt : ElT Try.prog 22 3 (.int .i64 0) 1 8 := ⟨Try.underlying22, info_parts (by kernel_rfl), rfl, by decide⟩
theorem Try.elBool : ElT Try.prog 32 4 (.bool false) 1 1 := ⟨Try.underlying32, info_parts (by kernel_rfl), rfl, by decide⟩
/-- a new row of numbers -/
def RowPost (w : World) (l : List Int) (e : Ending) (w' : World) : Prop :=
  ∃ A c, e = .returned (.slice A l.length c) ∧ w'.ownsRow w.heap.size 3 1 (.slice A l.length c) l.length (ic l) ∧ From w w'
theorem RowPost.of {w w' : World} {A : Option Addr} {n c : Nat} {l : List Int} {base : Nat} (hn : n = l.length) (h : w'.ownsRow base 3 1 (.slice A n c) n (ic l)) (hb : w.heap.size ≤ base) (hf : From w w') : RowPost w l (.returned (.slice A n c)) w' := by
  subst hn
  exact ⟨A, c, rfl, own_base h hb, hf⟩
theorem heap_set_at {W : World} {B : Nat} {cs : Array Value} {t : TypeId} (h : W.heap[B]? = some (.cells cs t (0, 0))) (i : Nat) (v : Value) : (W.setCell ⟨B, i, none⟩ v).heap[B]? = some (.cells (cs.setIfInBounds i v) t (0, 0)) := by
  simp only [World.setCell, Array.getElem?_modify]
  simp [h]
theorem heap_set_off (W : World) {B r : Nat} (hr : r ≠ B) (i : Nat) (v : Value) : (W.setCell ⟨r, i, none⟩ v).heap[B]? = W.heap[B]? := by
  simp only [World.setCell, Array.getElem?_modify]
  rw [if_neg hr]
end Go.Proofs.Ytpdbdpmlppbnnaa.Mo
namespace Go.Proofs.Ytpdbdpmlppbnnaa.Mo

/-- a monitor -/
structure Mon where
  par : Int
  low : Int
  high : Int
  need : Int
  of : Int
  ev : Int
  past : List Bool
  raised : Bool
def outB (m : Mon) (v : Int) : Bool := decide (v < m.low) || decide (m.high < v)
def trues (l : List Bool) : Nat := l.count true
def pushP (p : List Bool) (of : Int) (b : Bool) : List Bool := if of < ((p.length + 1 : Nat) : Int) then (p ++ [b]).drop 1 else p ++ [b]
def upM (m : Mon) (v : Int) : Bool := !m.raised && decide (m.need ≤ (trues (pushP m.past m.of (outB m v)) : Int))
def dnM (m : Mon) (v : Int) : Bool := m.raised && decide (trues (pushP m.past m.of (outB m v)) = 0)
def stepM (m : Mon) (v : Int) : Mon := { m with past := pushP m.past m.of (outB m v), raised := if upM m v || dnM m v then upM m v else m.raised }
def runM (m : Mon) : List Int → Mon
  | [] => m
  | v :: l => runM (stepM m v) l
theorem runM_append (m : Mon) (l : List Int) (v : Int) : runM m (l ++ [v]) = stepM (runM m l) v := by
  induction l generalizing m with
  | nil => rfl
  | cons a t ih => exact ih _
theorem runM_two (m : Mon) (l k : List Int) : runM m (l ++ k) = runM (runM m l) k := by
  induction l generalizing m with
  | nil => rfl
  | cons a t ih => exact ih _
theorem runM_take (m : Mon) (l : List Int) (k : Nat) (hk : k < l.length) : runM m (l.take (k + 1)) = stepM (runM m (l.take k)) l[k] := by
  rw [List.take_succ_eq_append_getElem hk, runM_append]
/-- what never turns -/
def Like (m n : Mon) : Prop := n.par = m.par ∧ n.low = m.low ∧ n.high = m.high ∧ n.need = m.need ∧ n.of = m.of ∧ n.ev = m.ev
theorem Like.refl (m : Mon) : Like m m := ⟨rfl, rfl, rfl, rfl, rfl, rfl⟩
theorem Like.step {m n : Mon} (h : Like m n) (v : Int) : Like m (stepM n v) := h
theorem like_run (m : Mon) (l : List Int) : Like m (runM m l) := by
  have : ∀ n, Like m n → Like m (runM n l) := by
    induction l with
    | nil => intro n h; exact h
    | cons a t ih => intro n h; exact ih _ (h.step a)
  exact this m (Like.refl m)
theorem outB_like {m n : Mon} (h : Like m n) (v : Int) : outB n v = outB m v := by
  obtain ⟨_, h1, h2, _⟩ := h
  unfold outB
  rw [h1, h2]
theorem snoc_ind {α : Type} {P : List α → Prop} (h0 : P []) (h1 : ∀ l a, P l → P (l ++ [a])) (l : List α) : P l := by
  have h : ∀ r : List α, P r.reverse := by
    intro r
    induction r with
    | nil => exact h0
    | cons a t ih => rw [List.reverse_cons]; exact h1 _ _ ih
  have := h l.reverse
  rwa [List.reverse_reverse] at this
def lastN (l : List Bool) (n : Nat) : List Bool := l.drop (l.length - n)
theorem lastN_len (l : List Bool) (n : Nat) : (lastN l n).length = min l.length n := by unfold lastN; rw [List.length_drop]; omega
theorem lastN_nil (n : Nat) : lastN [] n = [] := by simp [lastN]
set_option maxRecDepth 100000 in
theorem push_last (l : List Bool) (n : Nat) (of : Int) (b : Bool) (hof : of = n) (hn : 1 ≤ n) : pushP (lastN l n) of b = lastN (l ++ [b]) n := by
  unfold pushP
  rw [lastN_len]
  by_cases h : l.length < n
  · rw [if_neg (by omega)]
    unfold lastN
    rw [show l.length - n = 0 by omega, show (l ++ [b]).length - n = 0 by simp; omega]
    simp
  · rw [if_pos (by omega)]
    unfold lastN
    rw [← List.drop_append_of_le_length (by omega), List.drop_drop]
    congr 1
    simp; omega
theorem run_past (m : Mon) (hp : m.past = []) (n : Nat) (hof : m.of = n) (hn : 1 ≤ n) (l : List Int) : (runM m l).past = lastN (l.map (outB m)) n := by
  induction l using snoc_ind with
  | h0 => simpa [runM, lastN] using hp
  | h1 l v ih =>
    rw [runM_append]
    show pushP (runM m l).past (runM m l).of (outB (runM m l) v) = _
    rw [ih, (like_run m l).2.2.2.2.1, outB_like (like_run m l), push_last _ _ _ _ hof hn, List.map_append]; rfl
theorem trues_append (l k : List Bool) : trues (l ++ k) = trues l + trues k := by simp [trues]
theorem trues_le (l : List Bool) : trues l ≤ l.length := List.count_le_length
theorem trues_last_mono (l : List Bool) {a b : Nat} (h : a ≤ b) : trues (lastN l a) ≤ trues (lastN l b) := by
  unfold lastN trues
  exact (List.drop_sublist_drop_left l (by omega)).count_le _
set_option maxRecDepth 100000 in
theorem step_filter {m : Mon} {v : Int} {ever enough : Bool} (he : ever = enough) (hr : m.raised = true → ever = true) :
    (ever || (stepM m v).raised) = (enough || decide (m.need ≤ (trues (stepM m v).past : Int))) ∧ ((stepM m v).raised = true → (ever || (stepM m v).raised) = true) := by
  subst he
  refine ⟨?_, fun h => by simp [h]⟩
  show (ever || if upM m v || dnM m v then upM m v else m.raised) = (ever || decide (m.need ≤ (trues (pushP m.past m.of (outB m v)) : Int)))
  unfold upM dnM
  generalize trues (pushP m.past m.of (outB m v)) = n
  cases hm : m.raised
  · by_cases h : m.need ≤ (n : Int)
    · simp [h]
    · simp [h]
  · rw [hr hm]; simp
set_option maxRecDepth 100000 in
theorem step_delay {m : Mon} {v : Int} (hn : 1 ≤ m.need) : (m.need ≤ (trues (stepM m v).past : Int) → (stepM m v).raised = true) ∧ (trues (stepM m v).past = 0 → (stepM m v).raised = false) := by
  show (m.need ≤ (trues (pushP m.past m.of (outB m v)) : Int) → (if upM m v || dnM m v then upM m v else m.raised) = true) ∧ (trues (pushP m.past m.of (outB m v)) = 0 → (if upM m v || dnM m v then upM m v else m.raised) = false)
  unfold upM dnM
  generalize trues (pushP m.past m.of (outB m v)) = n
  constructor
  · intro h
    have h0 : ¬ n = 0 := by omega
    cases m.raised <;> simp [h, h0]
  · intro h
    subst h
    have h0 : ¬ m.need ≤ ((0 : Nat) : Int) := by omega
    cases m.raised <;> simp at h0 ⊢
    omega
theorem step_alt (m : Mon) (v : Int) : (upM m v && dnM m v) = false ∧ (stepM m v).raised = (if upM m v then true else if dnM m v then false else m.raised) ∧ (upM m v = true → m.raised = false) ∧ (dnM m v = true → m.raised = true) := by
  show (upM m v && dnM m v) = false ∧ (if upM m v || dnM m v then upM m v else m.raised) = _ ∧ _
  unfold upM dnM
  generalize trues (pushP m.past m.of (outB m v)) = n
  cases m.raised <;> simp
end Go.Proofs.Ytpdbdpmlppbnnaa.Mo
namespace Go.Proofs.Ytpdbdpmlppbnnaa.Mo
open Go.RowKit Go.Shelf

set_option maxRecDepth 100000 in
theorem outside_calls (lo hi v : Int) (w : World) :
    Calls Try.prog 143 #[.agg #[.int .i64 lo, .int .i64 hi], .int .i64 v] w fun e w' => e = .returned (.bool (decide (v < lo) || decide (hi < v))) ∧ From w w' := by
  obtain ⟨W1, hW1⟩ : ∃ V, w.alloc (.cells #[.int .i64 lo, .int .i64 hi] 148) = V := ⟨_, rfl⟩
  have f1 : From w W1 := by rw [← hW1]; exact From.alloc (From.refl _) _
  have c0 : W1.cell? ⟨w.heap.size, 0, none⟩ = some (.int .i64 lo) := by rw [← hW1, World.cell?_alloc_new]; rfl
  have c1 : W1.cell? ⟨w.heap.size, 1, none⟩ = some (.int .i64 hi) := by rw [← hW1, World.cell?_alloc_new]; rfl
  by_cases h : v < lo
  · have d1 : decide (v < lo) = true := by simpa using h
    go_enter Try.func143, Try.ntmps143
    go_wp2
    go_ret
    exact ⟨ret_bool (by simp [h]), f1⟩
  · have d1 : decide (v < lo) = false := by simpa using h
    go_enter Try.func143, Try.ntmps143
    go_wp2
    go_ret
    exact ⟨ret_bool (by simp), f1⟩
/-- a new row of truth values -/
def BRow (w : World) (l : List Bool) (e : Ending) (w' : World) : Prop :=
  ∃ A c, e = .returned (.slice A l.length c) ∧ w'.ownsRow w.heap.size 4 1 (.slice A l.length c) l.length (bc l) ∧ From w w'
set_option maxRecDepth 100000 in
theorem cloneB_calls (v : Value) (l : List Bool) (w : World) (h : Bools w v l) (hm : l.length ≤ 1000000) :
    Calls Try.prog 73 #[v] w (BRow w l) := by
  rcases h.out with ⟨rfl, h0, _⟩ | ⟨a0, c, rfl, _⟩
  · have hl := List.eq_nil_of_length_eq_zero h0
    subst hl
    have hnil : ∀ W, (binOp .eql 32 (.slice none 0 0) (.slice none 0 0)).run Try.prog W = .ok (.bool true) W := fun W => Lib.run_eql_slice_nil_nil W _ _ Try.underlying32
    go_enter Try.func73, Try.ntmps73
    go_wp2
    go_ret
    exact ⟨none, 0, rfl, own_nil _ _ _ _, From.refl _⟩
  · have H := bx h
    clear h
    have hnil : ∀ W, (binOp .eql 32 (.slice (some a0) l.length c) (.slice none 0 0)).run Try.prog W = .ok (.bool false) W := fun W => Lib.run_eql_slice_some_nil W _ _ _ Try.underlying32
    have hb1 : From w (w.alloc (.cells #[] 4)) := From.alloc (From.refl _) _
    go_enter Try.func73, Try.ntmps73
    go_wp2_with (at_builtin; refine app_sl rfl _ _ 32 rfl Try.elBool rfl (owns_empty w w.heap.size (Nat.le_refl _) 4 1) l.length (bc l) rfl (H.out.from hb1) (by simp [bc]) (bc_one l) (by omega) (by unfold maxLen; omega) (by simp) ?_; intro A2 c2 w2 o2 g2 _)
    go_ret
    have hb : From w w2 := From.app hb1 (owns_empty w w.heap.size (Nat.le_refl _) 4 1) (Nat.le_refl _) g2
    simp only [Nat.zero_add, List.nil_append] at o2
    exact ⟨A2, c2, ret_slice (by simp), o2, hb⟩
end Go.Proofs.Ytpdbdpmlppbnnaa.Mo
namespace Go.Proofs.Ytpdbdpmlppbnnaa.Mo
open Go.RowKit Go.Shelf

/-- the slice v holds n elements, in the cells cs, at block lo or behind it -/
structure SlN (lo : Nat) (w : World) (v : Value) (n : Nat) (cs : List Value) : Prop where
  out : (v = .slice none 0 0 ∧ n = 0 ∧ cs = []) ∨ ∃ a c, v = .slice (some a) n c ∧ ∀ j u, cs[j]? = some u → ∃ b off, a = ⟨b, off, none⟩ ∧ lo ≤ b ∧ w.cell? ⟨b, off + j, none⟩ = some u
theorem SlN.sl {lo : Nat} {w : World} {v : Value} {n : Nat} {cs : List Value} (h : SlN lo w v n cs) : Sl w w.heap.size v n cs := by
  rcases h.out with h | ⟨a, c, e, h⟩
  · exact ⟨.inl h⟩
  · refine ⟨.inr ⟨a, c, e, fun j u hj => ?_⟩⟩
    obtain ⟨b, off, e1, _, e3⟩ := h j u hj
    exact ⟨b, off, e1, World.block_lt_of_cell? w _ e3, e3⟩
theorem SlN.from {lo : Nat} {w w' : World} {v : Value} {n : Nat} {cs : List Value} (h : SlN lo w v n cs) (hb : From w w') : SlN lo w' v n cs := by
  rcases h.out with h | ⟨a, c, e, h⟩
  · exact ⟨.inl h⟩
  · refine ⟨.inr ⟨a, c, e, fun j u hj => ?_⟩⟩
    obtain ⟨b, off, e1, e2, e3⟩ := h j u hj
    exact ⟨b, off, e1, e2, hb.cell e3⟩
theorem cell_set_off {w : World} {r i : Nat} {x : Value} {a : Addr} {u : Value} (h : w.cell? a = some u) (hr : a.block ≠ r) : (w.setCell ⟨r, i, none⟩ x).cell? a = some u := by
  rw [World.cell?_of_block (w := w) (heap_set_off w (Ne.symm hr) i x)]; exact h
theorem SlN.setCell {lo : Nat} {w : World} {v : Value} {n : Nat} {cs : List Value} (h : SlN lo w v n cs) {r : Nat} (hr : r < lo) (i : Nat) (x : Value) : SlN lo (w.setCell ⟨r, i, none⟩ x) v n cs := by
  rcases h.out with h | ⟨a, c, e, h⟩
  · exact ⟨.inl h⟩
  · refine ⟨.inr ⟨a, c, e, fun j u hj => ?_⟩⟩
    obtain ⟨b, off, e1, e2, e3⟩ := h j u hj
    exact ⟨b, off, e1, e2, cell_set_off e3 (by show b ≠ r; omega)⟩
theorem SlN.low {lo lo' : Nat} {w : World} {v : Value} {n : Nat} {cs : List Value} (h : SlN lo w v n cs) (hl : lo' ≤ lo) : SlN lo' w v n cs := by
  rcases h.out with h | ⟨a, c, e, h⟩
  · exact ⟨.inl h⟩
  · refine ⟨.inr ⟨a, c, e, fun j u hj => ?_⟩⟩
    obtain ⟨b, off, e1, e2, e3⟩ := h j u hj
    exact ⟨b, off, e1, by omega, e3⟩
theorem sln_of_own {w : World} {base size n : Nat} {e : TypeId} {v : Value} {cs : List Value} (h : w.ownsRow base e size v n cs) : SlN base w v n cs := by
  rcases h.2 with ⟨rfl, rfl⟩ | ⟨g, cap, cur, rfl, hg, hh, r⟩
  · exact ⟨.inl ⟨rfl, rfl, List.eq_nil_of_length_eq_zero (by have := h.1; omega)⟩⟩
  · refine ⟨.inr ⟨_, _, rfl, fun j u hj => ⟨g, 0, rfl, hg, ?_⟩⟩⟩
    have := h.cells (g := g) rfl j u hj
    rwa [Addr.add_mid] at this
set_option maxRecDepth 100000 in
theorem SlN.drop {lo : Nat} {w : World} {n c : Nat} {A : Option Addr} {cs : List Value} (h : SlN lo w (.slice A n c) n cs) (k : Nat) : SlN lo w (.slice (Option.map (fun x : Addr => (⟨x.block, x.off + k, none⟩ : Addr)) A) (n - k) (c - k)) (n - k) (cs.drop k) := by
  rcases h.out with ⟨e, rfl, rfl⟩ | ⟨a, c', e, hc⟩
  · injection e with e1 e2 e3
    subst e1 e3
    exact ⟨.inl ⟨by simp, by simp, by simp⟩⟩
  · injection e with e1 _ e3
    subst e1 e3
    refine ⟨.inr ⟨_, _, rfl, fun j u hj => ?_⟩⟩
    rw [List.getElem?_drop] at hj
    obtain ⟨b, off, rfl, e2, e3⟩ := hc _ u hj
    exact ⟨b, off + k, rfl, e2, by rw [Nat.add_assoc]; exact e3⟩
theorem sln_zero {w : World} {lo c : Nat} {A : Option Addr} {n : Nat} {xs : List Value} {base size : Nat} {e : TypeId} {c' : Nat} (h : w.ownsRow base e size (.slice A (n + 1) c') (n + 1) xs) : SlN lo w (.slice A 0 c) 0 [] := by
  obtain ⟨g, cap, hv, _⟩ := h.form (by omega)
  injection hv with e1 _ _
  subst e1
  exact ⟨.inr ⟨_, _, rfl, fun j u hj => by simp at hj⟩⟩
theorem own_cap {w : World} {A : Option Addr} {n c base size : Nat} {xs : List Value} {e : TypeId} (h : w.ownsRow base e size (.slice A n c) n xs) : n ≤ c := by
  rcases h.2 with ⟨h1, h2⟩ | ⟨g, cap, cur, h1, _, _, h2, _⟩
  · omega
  · injection h1 with _ _ h3
    omega
theorem trues_take (q : List Bool) (k : Nat) (hk : k < q.length) : (trues (q.take (k + 1)) : Int) = (trues (q.take k) : Int) + if q[k] then 1 else 0 := by
  rw [List.take_succ_eq_append_getElem hk, trues_append]
  cases q[k] <;> simp [trues]
/-- the past with a further value, and how many of it were outside -/
def SeenPost (w : World) (q : List Bool) (e : Ending) (w' : World) : Prop :=
  ∃ A c, e = .returned (.tuple #[.slice A q.length c, .int .i64 (trues q)]) ∧ SlN w.heap.size w' (.slice A q.length c) q.length (bc q) ∧ From w w'
set_option maxRecDepth 100000 in
theorem seen_calls (A : Option Addr) (c : Nat) (p : List Bool) (of lo hi v : Int) (w : World) (h : Bools w (.slice A p.length c) p) (hm : p.length ≤ 1000) (q : List Bool) (hq : pushP p of (decide (v < lo) || decide (hi < v)) = q) :
    Calls Try.prog 98 #[.slice A p.length c, .int .i64 of, .iface 148 (.agg #[.int .i64 lo, .int .i64 hi]), .int .i64 v] w (SeenPost w q) := by
  have H := bx h
  obtain ⟨b, hb⟩ : ∃ b, (decide (v < lo) || decide (hi < v)) = b := ⟨_, rfl⟩
  rw [hb] at hq
  have HQ := bx hq
  have HB := bx hb
  clear h hq hb
  have hmeth : ∀ W : World, (method 340 148 (.agg #[.int .i64 lo, .int .i64 hi]) "perigee/monitor.outside").run Try.prog W = .ok (143, .agg #[.int .i64 lo, .int .i64 hi]) W := fun _ => by kernel_rfl
  go_enter Try.func98, Try.ntmps98
  go_wp2_with fail
  refine (cloneB_calls (.slice A p.length c) p w H.out (by omega)).mono ?_
  rintro e w1 ⟨A1, c1, rfl, o1, k1⟩
  go_wp2_with fail
  refine (outside_calls lo hi v w1).mono ?_
  rintro e w2 ⟨rfl, k2⟩
  rw [HB.out]
  have o2 := own_call o1 k2
  go_wp2_with (at_builtin; refine app_sl rfl _ _ 32 rfl Try.elBool rfl (o2.alloc _) 1 [.bool b] rfl (sl_new w2 [.bool b] 4 1 1) rfl (by simp [Value.oneCell']) (by omega) (by unfold maxLen; omega) (by have := Below.size (k1.trans k2); simp; omega) ?_; intro A3 c3 w3 o3 g3 _)
  all_goals
    have hc3 := own_cap o3
    have hq := HQ.out
    have k3 := From.app ((k1.trans k2).alloc (.cells #[.bool b] 4)) (o2.alloc (.cells #[.bool b] 4)) (Nat.le_refl _) g3
    rename_i hcond _ _
  · have HQN : Bx (SlN w.heap.size w3 (.slice A3 p.length 0) q.length (bc q)) := bx (by
    have hp0 : p = [] := List.eq_nil_of_length_eq_zero (by omega)
    subst hp0
    rw [pushP, if_pos (by omega)] at hq
    subst hq
    exact sln_zero o3)
    have HQB := bx HQN.out.sl
    have hql : q.length = p.length := by have := HQ.out; rw [pushP, if_pos (by omega)] at this; rw [← this]; simp
    have HQL := bx hql
    clear o2 o3 g3 hql
    go_loopw [11, 13, 29] (fun n _ i wr => ∃ k : Nat, k ≤ q.length ∧ i = .int .i64 k ∧ n = .int .i64 (trues (q.take k)) ∧ wr = w3) (fun _ _ i _ => q.length - (intOf i).toNat)
    case atStart => exact ⟨0, Nat.zero_le _, rfl, rfl, rfl⟩
    case round =>
      obtain ⟨k, hk, rfl, rfl, rfl⟩ := hrel
      by_cases hlt : k < q.length
      · obtain ⟨bb, off, hA, hbb, c1⟩ := bools_at HQB.out hlt
        have HT := bx (trues_take q k hlt)
        have hlt2 : (k : Int) < (p.length : Int) := by have := HQL.out; omega
        have hn : trues (q.take k) ≤ 1001 := by have := trues_le (q.take k); rw [List.length_take] at this; have := HQL.out; omega
        generalize q[k] = y at *
        generalize trues (q.take k) = tk at *
        skip
        cases y
        · go_wp2
          go_roundw
          case rel => exact ⟨k + 1, by omega, by go_num, by rw [HT.out]; simp, trivial⟩
          case measure => simp [intOf]; omega
        · go_wp2
          go_roundw
          case rel => exact ⟨k + 1, by omega, by go_num, by rw [HT.out]; simp, trivial⟩
          case measure => simp [intOf]; omega
      · obtain rfl : k = q.length := by omega
        have hge : ¬ ((q.length : Int) < (p.length : Int)) := by have := HQL.out; omega
        have hge2 : ((q.length : Int) < (p.length : Int)) = False := eq_false hge
        go_wp2
        go_ret2
        exact ⟨A3, 0, by rw [HQL.out]; rfl, by have := HQN.out; rwa [← HQL.out] at this, k3⟩
  · have HQN : Bx (SlN w.heap.size w3 (.slice (Option.map (fun x => { block := x.block, off := x.off + 1 }) A3) p.length (c3 - 1)) q.length (bc q)) := bx (by
    rw [pushP, if_pos (by omega)] at hq
    subst hq
    have := SlN.drop (sln_of_own o3) 1
    show SlN _ _ _ ((p ++ [b]).drop 1).length _
    rw [show ((p ++ [b]).drop 1).length = p.length + 1 - 1 by simp]
    simpa [bc] using this)
    have HQB := bx HQN.out.sl
    have hql : q.length = p.length := by have := HQ.out; rw [pushP, if_pos (by omega)] at this; rw [← this]; simp
    have HQL := bx hql
    clear o2 o3 g3 hql
    go_loopw [11, 13, 29] (fun n _ i wr => ∃ k : Nat, k ≤ q.length ∧ i = .int .i64 k ∧ n = .int .i64 (trues (q.take k)) ∧ wr = w3) (fun _ _ i _ => q.length - (intOf i).toNat)
    case atStart => exact ⟨0, Nat.zero_le _, rfl, rfl, rfl⟩
    case round =>
      obtain ⟨k, hk, rfl, rfl, rfl⟩ := hrel
      by_cases hlt : k < q.length
      · obtain ⟨bb, off, hA, hbb, c1⟩ := bools_at HQB.out hlt
        have HT := bx (trues_take q k hlt)
        have hlt2 : (k : Int) < (p.length : Int) := by have := HQL.out; omega
        have hn : trues (q.take k) ≤ 1001 := by have := trues_le (q.take k); rw [List.length_take] at this; have := HQL.out; omega
        generalize q[k] = y at *
        generalize trues (q.take k) = tk at *
        skip
        cases y
        · go_wp2
          go_roundw
          case rel => exact ⟨k + 1, by omega, by go_num, by rw [HT.out]; simp, trivial⟩
          case measure => simp [intOf]; omega
        · go_wp2
          go_roundw
          case rel => exact ⟨k + 1, by omega, by go_num, by rw [HT.out]; simp, trivial⟩
          case measure => simp [intOf]; omega
      · obtain rfl : k = q.length := by omega
        have hge : ¬ ((q.length : Int) < (p.length : Int)) := by have := HQL.out; omega
        have hge2 : ((q.length : Int) < (p.length : Int)) = False := eq_false hge
        go_wp2
        go_ret2
        exact ⟨Option.map (fun x => { block := x.block, off := x.off + 1 }) A3, c3 - 1, by rw [HQL.out]; rfl, by have := HQN.out; rwa [← HQL.out] at this, k3⟩
  · have HQN : Bx (SlN w.heap.size w3 (.slice A3 (p.length + 1) c3) q.length (bc q)) := bx (by
    rw [pushP, if_neg (by omega)] at hq
    subst hq
    show SlN _ _ _ (p ++ [b]).length _
    rw [show (p ++ [b]).length = p.length + 1 by simp]
    simpa [bc] using sln_of_own o3)
    have HQB := bx HQN.out.sl
    have hql : q.length = p.length + 1 := by have := HQ.out; rw [pushP, if_neg (by omega)] at this; rw [← this]; simp
    have HQL := bx hql
    clear o2 o3 g3 hql
    go_loopw [11, 13, 29] (fun n _ i wr => ∃ k : Nat, k ≤ q.length ∧ i = .int .i64 k ∧ n = .int .i64 (trues (q.take k)) ∧ wr = w3) (fun _ _ i _ => q.length - (intOf i).toNat)
    case atStart => exact ⟨0, Nat.zero_le _, rfl, rfl, rfl⟩
    case round =>
      obtain ⟨k, hk, rfl, rfl, rfl⟩ := hrel
      by_cases hlt : k < q.length
      · obtain ⟨bb, off, hA, hbb, c1⟩ := bools_at HQB.out hlt
        have HT := bx (trues_take q k hlt)
        have hlt2 : (k : Int) < (p.length : Int) + 1 := by have := HQL.out; omega
        have hn : trues (q.take k) ≤ 1001 := by have := trues_le (q.take k); rw [List.length_take] at this; have := HQL.out; omega
        generalize q[k] = y at *
        generalize trues (q.take k) = tk at *
        subst hA
        cases y
        · go_wp2
          go_roundw
          case rel => exact ⟨k + 1, by omega, by go_num, by rw [HT.out]; simp, trivial⟩
          case measure => simp [intOf]; omega
        · go_wp2
          go_roundw
          case rel => exact ⟨k + 1, by omega, by go_num, by rw [HT.out]; simp, trivial⟩
          case measure => simp [intOf]; omega
      · obtain rfl : k = q.length := by omega
        have hge : ¬ ((q.length : Int) < (p.length : Int) + 1) := by have := HQL.out; omega
        have hge2 : ((q.length : Int) < (p.length : Int) + 1) = False := eq_false hge
        go_wp2
        go_ret2
        exact ⟨A3, c3, by rw [HQL.out]; rfl, by have := HQN.out; rwa [← HQL.out] at this, k3⟩
end Go.Proofs.Ytpdbdpmlppbnnaa.Mo
namespace Go.Proofs.Ytpdbdpmlppbnnaa.Mo
open Go.RowKit Go.Shelf

/-- a monitor's value, its past at v -/
abbrev mcs (m : Mon) (v : Value) : Array Value := #[.int .i64 m.par, .int .i64 m.low, .int .i64 m.high, .int .i64 m.need, .int .i64 m.of, .int .i64 m.ev, v, .bool m.raised]
/-- a monitor in the box r -/
structure MonC (W : World) (r : Nat) (m : Mon) (v : Value) : Prop where
  out : W.heap[r]? = some (.cells (mcs m v) 114 (0, 0))
theorem MonC.from {W W' : World} {r : Nat} {m : Mon} {v : Value} (h : MonC W r m v) (hb : From W W') : MonC W' r m v := ⟨hb.heap h.out⟩
theorem MonC.new (w : World) (m : Mon) (v : Value) : MonC (w.alloc (.cells (mcs m v) 114)) w.heap.size m v := ⟨heap_alloc_new w _⟩
theorem MonC.facts {W : World} {r : Nat} {m : Mon} {v : Value} (h : MonC W r m v) :
    W.cell? ⟨r, 0, none⟩ = some (.int .i64 m.par) ∧ W.cell? ⟨r, 1, none⟩ = some (.int .i64 m.low) ∧ W.cell? ⟨r, 2, none⟩ = some (.int .i64 m.high) ∧ W.cell? ⟨r, 3, none⟩ = some (.int .i64 m.need) ∧
    W.cell? ⟨r, 4, none⟩ = some (.int .i64 m.of) ∧ W.cell? ⟨r, 5, none⟩ = some (.int .i64 m.ev) ∧ W.cell? ⟨r, 6, none⟩ = some v ∧ W.cell? ⟨r, 7, none⟩ = some (.bool m.raised) := by
  have e := h.out
  refine ⟨?_, ?_, ?_, ?_, ?_, ?_, ?_, ?_⟩ <;> (rw [cell_of_row _ _ _ _ _ _ e]; rfl)
theorem MonC.soft {W : World} {r : Nat} {m : Mon} {v : Value} (h : MonC W r m v) (i : Nat) : W.frozen? ⟨r, i, none⟩ = false := by
  have e := h.out
  simp [World.frozen?, e]
theorem MonC.lt {W : World} {r : Nat} {m : Mon} {v : Value} (h : MonC W r m v) : r < W.heap.size := (Array.getElem?_eq_some_iff.1 h.out).1
theorem MonC.off {W : World} {r b : Nat} {m : Mon} {v : Value} (h : MonC W b m v) (hr : r ≠ b) (i : Nat) (x : Value) : MonC (W.setCell ⟨r, i, none⟩ x) b m v := ⟨(heap_set_off W hr i x).trans h.out⟩
theorem MonC.past {W : World} {r : Nat} {m : Mon} {v : Value} (h : MonC W r m v) (v' : Value) (p : List Bool) : MonC (W.setCell ⟨r, 6, none⟩ v') r { m with past := p } v' := ⟨heap_set_at h.out 6 _⟩
theorem MonC.rais {W : World} {r : Nat} {m : Mon} {v : Value} (h : MonC W r m v) (b : Bool) : MonC (W.setCell ⟨r, 7, none⟩ (.bool b)) r { m with raised := b } v := ⟨heap_set_at h.out 7 _⟩
/-- all eight cells of a box written over -/
abbrev set8 (W : World) (r : Nat) (m : Mon) (v : Value) : World :=
  (((((((W.setCell ⟨r, 0, none⟩ (.int .i64 m.par)).setCell ⟨r, 1, none⟩ (.int .i64 m.low)).setCell ⟨r, 2, none⟩ (.int .i64 m.high)).setCell ⟨r, 3, none⟩ (.int .i64 m.need)).setCell ⟨r, 4, none⟩ (.int .i64 m.of)).setCell ⟨r, 5, none⟩ (.int .i64 m.ev)).setCell ⟨r, 6, none⟩ v).setCell ⟨r, 7, none⟩ (.bool m.raised)
theorem mcs_set (n m : Mon) (u v : Value) : (((((((((mcs n u).setIfInBounds 0 (.int .i64 m.par)).setIfInBounds 1 (.int .i64 m.low)).setIfInBounds 2 (.int .i64 m.high)).setIfInBounds 3 (.int .i64 m.need)).setIfInBounds 4 (.int .i64 m.of)).setIfInBounds 5 (.int .i64 m.ev)).setIfInBounds 6 v).setIfInBounds 7 (.bool m.raised)) = mcs m v := by
  simp [mcs]
set_option maxRecDepth 100000 in
theorem MonC.set8 {W : World} {r : Nat} {m n : Mon} {u v : Value} (h : MonC W r n u) : MonC (set8 W r m v) r m v := by
  have e0 := h.out
  have e1 := heap_set_at e0 0 (.int .i64 m.par)
  have e2 := heap_set_at e1 1 (.int .i64 m.low)
  have e3 := heap_set_at e2 2 (.int .i64 m.high)
  have e4 := heap_set_at e3 3 (.int .i64 m.need)
  have e5 := heap_set_at e4 4 (.int .i64 m.of)
  have e6 := heap_set_at e5 5 (.int .i64 m.ev)
  have e7 := heap_set_at e6 6 v
  have e8 := heap_set_at e7 7 (.bool m.raised)
  rw [mcs_set] at e8
  exact ⟨e8⟩
theorem MonC.off8 {W : World} {r b : Nat} {m n : Mon} {u v : Value} (h : MonC W b n u) (hr : r ≠ b) : MonC (Go.Proofs.Ytpdbdpmlppbnnaa.Mo.set8 W r m v) b n u :=
  (((((((h.off hr _ _).off hr _ _).off hr _ _).off hr _ _).off hr _ _).off hr _ _).off hr _ _).off hr _ _
theorem From.setCell {w w' : World} {r : Nat} (h : From w w') (hr : w.heap.size ≤ r) (i : Nat) (x : Value) : From w (w'.setCell ⟨r, i, none⟩ x) := Below.setCell h (p := ⟨r, i, none⟩) hr _
theorem From.set8 {w w' : World} {r : Nat} (h : From w w') (hr : w.heap.size ≤ r) (m : Mon) (v : Value) : From w (Go.Proofs.Ytpdbdpmlppbnnaa.Mo.set8 w' r m v) :=
  (((((((h.setCell hr _ _).setCell hr _ _).setCell hr _ _).setCell hr _ _).setCell hr _ _).setCell hr _ _).setCell hr _ _).setCell hr _ _
theorem SlN.set8 {lo : Nat} {w : World} {v : Value} {n : Nat} {cs : List Value} (h : SlN lo w v n cs) {r : Nat} (hr : r < lo) (m : Mon) (u : Value) : SlN lo (Go.Proofs.Ytpdbdpmlppbnnaa.Mo.set8 w r m u) v n cs :=
  (((((((h.setCell hr _ _).setCell hr _ _).setCell hr _ _).setCell hr _ _).setCell hr _ _).setCell hr _ _).setCell hr _ _).setCell hr _ _
/-- what Step answers -/
def StepPost (w : World) (m : Mon) (up dn : Bool) (e : Ending) (w' : World) : Prop :=
  ∃ A c, e = .returned (.tuple #[.agg (mcs m (.slice A m.past.length c)), .bool up, .bool dn]) ∧ SlN w.heap.size w' (.slice A m.past.length c) m.past.length (bc m.past) ∧ From w w'
set_option maxRecDepth 100000 in
set_option maxHeartbeats 1000000 in
theorem step_calls (m : Mon) (A : Option Addr) (c : Nat) (v : Int) (w : World) (h : Bools w (.slice A m.past.length c) m.past) (hm : m.past.length ≤ 1000) (n : Mon) (hn : stepM m v = n) (up dn : Bool) (hu : upM m v = up) (hd : dnM m v = dn) :
    Calls Try.prog 72 #[.agg (mcs m (.slice A m.past.length c)), .int .i64 v] w (StepPost w n up dn) := by
  have hf : n.past = pushP m.past m.of (outB m v) ∧ n.raised = (if up || dn then up else m.raised) ∧ Like m n := by rw [← hn, ← hu, ← hd]; exact ⟨rfl, rfl, (Like.refl m).step v⟩
  obtain ⟨q, hq⟩ : ∃ q, pushP m.past m.of (outB m v) = q := ⟨_, rfl⟩
  have hup : up = (!m.raised && decide (m.need ≤ (trues q : Int))) := by rw [← hu, ← hq]; rfl
  have hdn : dn = (m.raised && decide (trues q = 0)) := by rw [← hd, ← hq]; rfl
  rw [hq] at hf
  obtain ⟨f1, f2, f3, f4, f5, f6, f7, f8⟩ := hf
  obtain ⟨W1, hW1⟩ : ∃ V, w.alloc (.cells (mcs m (.slice A m.past.length c)) 114) = V := ⟨_, rfl⟩
  obtain ⟨W2, hW2⟩ : ∃ V, W1.alloc (.cells (mcs ⟨0, 0, 0, 0, 0, 0, [], false⟩ (.slice none 0 0)) 114) = V := ⟨_, rfl⟩
  have k1 : From w W1 := by rw [← hW1]; exact From.alloc (From.refl _) _
  have k2 : From W1 W2 := by rw [← hW2]; exact From.alloc (From.refl _) _
  have s1 : W1.heap.size = w.heap.size + 1 := by rw [← hW1]; simp
  have s2 : W2.heap.size = w.heap.size + 2 := by rw [← hW2]; simp [s1]
  have M1 : MonC W2 w.heap.size m (.slice A m.past.length c) := MonC.from (by rw [← hW1]; exact MonC.new w m _) k2
  have M2 : MonC W2 (w.heap.size + 1) ⟨0, 0, 0, 0, 0, 0, [], false⟩ (.slice none 0 0) := by rw [← hW2, ← s1]; exact MonC.new W1 _ _
  have HS := bx (seen_calls A c m.past m.of m.low m.high v W2 (h.from (k1.trans k2)) (by omega) q (by rw [← hq]; rfl))
  obtain ⟨a0, a1, a2, a3, a4, a5, a6, a7⟩ := M1.facts
  have N1 := bx M1
  have N2 := bx M2
  clear M1 M2 h hu hd hn hq
  obtain ⟨mp, ml, mh, mn, mo, me, mps, mr⟩ := m
  obtain ⟨np, nl, nh, nn, no, ne, nps, nr⟩ := n
  simp only at f1 f2 f3 f4 f5 f6 f7 f8
  subst f1 f3 f4 f5 f6 f7 f8
  simp only at *
  have F2 := bx f2
  have HUP := bx hup
  have HDN := bx hdn
  clear f2 hup hdn
  go_enter Try.func72, Try.ntmps72
  go_wp2_with fail
  refine HS.out.mono ?_
  rintro e w3 ⟨A3, C3, rfl, q3, k3⟩
  have M1 := N1.out.from k3
  have M2 := N2.out.from k3
  have HF := bx ((k1.trans k2).trans k3)
  have HQ := bx q3
  obtain ⟨a0, a1, a2, a3, a4, a5, a6, a7⟩ := M1.facts
  have a8 := M1.soft 6
  have a9 := M1.soft 7
  obtain ⟨b0, b1, b2, b3, b4, b5, b6, b7⟩ := M2.facts
  have c0 := M2.soft 0
  have c1 := M2.soft 1
  have c2 := M2.soft 2
  have c3 := M2.soft 3
  have c4 := M2.soft 4
  have c5 := M2.soft 5
  have c6 := M2.soft 6
  have c7 := M2.soft 7
  simp only at a0 a1 a2 a3 a4 a5 a6 a7 b0 b1 b2 b3 b4 b5 b6 b7
  replace N1 := bx M1
  replace N2 := bx M2
  clear M1 M2 HS hW1 hW2 q3
  generalize trues nps = tq at *
  cases mr
  · by_cases hx : nn ≤ (tq : Int)
    · have d1 : decide (nn ≤ (tq : Int)) = true := by simpa using hx
      obtain rfl : up = true := by rw [HUP.out]; simp [hx]
      obtain rfl : dn = false := by rw [HDN.out]; rfl
      obtain rfl : nr = true := F2.out
      go_wp2_with fail
      refine bodyPost_ret (v := .tuple #[.agg (mcs ⟨np, nl, nh, nn, no, ne, nps, true⟩ (.slice A3 nps.length C3)), .bool true, .bool false]) (by simp [results, Try.results72, go_sem, b0, b1, b2, b3, b4, b5, b6, b7]) rfl ⟨A3, C3, rfl, ?_, ?_⟩
      · exact SlN.low (((HQ.out.setCell (by omega) _ _).setCell (by omega) _ _).set8 (by omega) ⟨np, nl, nh, nn, no, ne, nps, true⟩ _) (by omega)
      · exact From.set8 ((HF.out.setCell (Nat.le_refl _) _ _).setCell (Nat.le_refl _) _ _) (by omega) ⟨np, nl, nh, nn, no, ne, nps, true⟩ _
    · have d1 : decide (nn ≤ (tq : Int)) = false := by simpa using hx
      obtain rfl : up = false := by rw [HUP.out]; simp [hx]
      obtain rfl : dn = false := by rw [HDN.out]; rfl
      obtain rfl : nr = false := F2.out
      go_wp2_with fail
      refine bodyPost_ret (v := .tuple #[.agg (mcs ⟨np, nl, nh, nn, no, ne, nps, false⟩ (.slice A3 nps.length C3)), .bool false, .bool false]) (by simp [results, Try.results72, go_sem, b0, b1, b2, b3, b4, b5, b6, b7]) rfl ⟨A3, C3, rfl, ?_, ?_⟩
      · exact SlN.low ((HQ.out.setCell (by omega) _ _).set8 (by omega) ⟨np, nl, nh, nn, no, ne, nps, false⟩ _) (by omega)
      · exact From.set8 (HF.out.setCell (Nat.le_refl _) _ _) (by omega) ⟨np, nl, nh, nn, no, ne, nps, false⟩ _
  · by_cases hx : tq = 0
    · have d1 : ((tq : Int) == 0) = true := by simp [hx]
      obtain rfl : up = false := by rw [HUP.out]; rfl
      obtain rfl : dn = true := by rw [HDN.out]; simp [hx]
      obtain rfl : nr = false := F2.out
      go_wp2_with fail
      refine bodyPost_ret (v := .tuple #[.agg (mcs ⟨np, nl, nh, nn, no, ne, nps, false⟩ (.slice A3 nps.length C3)), .bool false, .bool true]) (by simp [results, Try.results72, go_sem, b0, b1, b2, b3, b4, b5, b6, b7]) rfl ⟨A3, C3, rfl, ?_, ?_⟩
      · exact SlN.low (((HQ.out.setCell (by omega) _ _).setCell (by omega) _ _).set8 (by omega) ⟨np, nl, nh, nn, no, ne, nps, false⟩ _) (by omega)
      · exact From.set8 ((HF.out.setCell (Nat.le_refl _) _ _).setCell (Nat.le_refl _) _ _) (by omega) ⟨np, nl, nh, nn, no, ne, nps, false⟩ _
    · have d1 : ((tq : Int) == 0) = false := by simp [hx]
      obtain rfl : up = false := by rw [HUP.out]; rfl
      obtain rfl : dn = false := by rw [HDN.out]; simp [hx]
      obtain rfl : nr = true := F2.out
      go_wp2_with fail
      refine bodyPost_ret (v := .tuple #[.agg (mcs ⟨np, nl, nh, nn, no, ne, nps, true⟩ (.slice A3 nps.length C3)), .bool false, .bool false]) (by simp [results, Try.results72, go_sem, b0, b1, b2, b3, b4, b5, b6, b7]) rfl ⟨A3, C3, rfl, ?_, ?_⟩
      · exact SlN.low ((HQ.out.setCell (by omega) _ _).set8 (by omega) ⟨np, nl, nh, nn, no, ne, nps, true⟩ _) (by omega)
      · exact From.set8 (HF.out.setCell (Nat.le_refl _) _ _) (by omega) ⟨np, nl, nh, nn, no, ne, nps, true⟩ _
end Go.Proofs.Ytpdbdpmlppbnnaa.Mo
namespace Go.Proofs.Ytpdbdpmlppbnnaa.Mo
open Go.RowKit Go.Shelf

/-- a number that fits -/
abbrev Fits (x : Int) : Prop := -9223372036854775808 ≤ x ∧ x ≤ 9223372036854775807
def around (n m : Int) : Int := (if n < 0 then -(n + 1) else n) % m
theorem around_bd (n m : Int) (hm : 0 < m) : 0 ≤ around n m ∧ around n m < m := ⟨Int.emod_nonneg _ (by omega), Int.emod_lt_of_pos _ hm⟩
set_option maxRecDepth 100000 in
theorem around_calls (n m : Int) (w : World) (h0 : -9223372036854775808 ≤ n) (h1 : n ≤ 9223372036854775807) (hm0 : 0 < m) (hm1 : m ≤ 9223372036854775807) :
    Calls Try.prog 23 #[.int .i64 n, .int .i64 m] w fun e w' => e = .returned (.int .i64 (around n m)) ∧ w' = w := by
  have hz : ¬ m = 0 := by omega
  by_cases hn : n < 0
  · have e1 : IntKind.i64.wrap (n + 1) = n + 1 := IntWalk.i64_in _ (by omega)
    have e2 : IntKind.i64.wrap (-(n + 1)) = -(n + 1) := IntWalk.i64_in _ (by omega)
    have HX := bx (show (-(n + 1)).tmod m = around n m by rw [around, if_pos hn, Int.tmod_eq_emod_of_nonneg (by omega)])
    have hb := around_bd n m hm0
    rw [← HX.out] at hb
    go_enter Try.func23, Try.ntmps23
    go_wp2
    go_ret
    exact ⟨ret_int (by first | exact HX.out | (rw [← HX.out, Int.neg_tmod])), rfl⟩
  · have HX := bx (show n % m = around n m by rw [around, if_neg hn])
    have hb := around_bd n m hm0
    rw [← HX.out] at hb
    go_enter Try.func23, Try.ntmps23
    go_wp2
    go_ret
    exact ⟨ret_int HX.out, rfl⟩
def pickI (l : List Int) (i m : Int) : Int := if 0 ≤ i ∧ i < l.length then around (l.getD i.toNat 0) m else 0
theorem pick_bd (l : List Int) (i m : Int) (hm : 0 < m) : 0 ≤ pickI l i m ∧ pickI l i m < m := by
  unfold pickI
  split
  · exact around_bd _ _ hm
  · omega
set_option maxRecDepth 100000 in
theorem pick_calls (A : Option Addr) (c : Nat) (l : List Int) (i m : Int) (w : World) (h : Ints w (.slice A l.length c) l) (hx : ∀ x ∈ l, -9223372036854775808 ≤ x ∧ x ≤ 9223372036854775807) (hm0 : 0 < m) (hm1 : m ≤ 9223372036854775807) (y : Int) (hy : pickI l i m = y) :
    Calls Try.prog 59 #[.slice A l.length c, .int .i64 i, .int .i64 m] w fun e w' => e = .returned (.int .i64 y) ∧ w' = w := by
  by_cases h0 : i < 0
  · have HY := bx (show (0 : Int) = y by rw [← hy, pickI, if_neg (by omega)])
    clear hy hx
    go_enter Try.func59, Try.ntmps59
    go_wp2
    go_ret
    exact ⟨ret_int HY.out, rfl⟩
  by_cases h1 : (l.length : Int) ≤ i
  · have HY := bx (show (0 : Int) = y by rw [← hy, pickI, if_neg (by omega)])
    clear hy hx
    go_enter Try.func59, Try.ntmps59
    go_wp2
    go_ret
    exact ⟨ret_int HY.out, rfl⟩
  · obtain ⟨k, rfl⟩ : ∃ k : Nat, i = k := ⟨i.toNat, by omega⟩
    have hk : k < l.length := by omega
    obtain ⟨b, off, rfl, hb, c1⟩ := ints_at h hk
    obtain ⟨x0, x1⟩ := hx l[k] (List.getElem_mem hk)
    have HY := bx (show around l[k] m = y by rw [← hy, pickI, if_pos (by omega)]; simp [List.getD_eq_getElem?_getD, List.getElem?_eq_getElem hk])
    generalize l[k] = u at *
    have z1 : (k : Int) < (l.length : Int) := by omega
    have z2 : (0 : Int) ≤ (k : Int) := by omega
    clear hy hx
    go_enter Try.func59, Try.ntmps59
    go_wp2_with fail
    refine (around_calls u m w x0 x1 hm0 hm1).mono ?_
    rintro e w1 ⟨rfl, rfl⟩
    go_wp2
    go_ret
    exact ⟨ret_int HY.out, rfl⟩
def boundI (n m : Int) : Int := around n (2 * m + 1) - m
theorem bound_bd (n m : Int) (hm : 0 ≤ m) : -m ≤ boundI n m ∧ boundI n m ≤ m := by
  have := around_bd n (2 * m + 1) (by omega)
  unfold boundI
  omega
set_option maxRecDepth 100000 in
theorem bound_calls (n m : Int) (w : World) (h0 : -9223372036854775808 ≤ n) (h1 : n ≤ 9223372036854775807) (hm0 : 0 ≤ m) (hm1 : m ≤ 2305843009213693952) :
    Calls Try.prog 44 #[.int .i64 n, .int .i64 m] w fun e w' => e = .returned (.int .i64 (boundI n m)) ∧ w' = w := by
  have e1 : IntKind.i64.wrap (2 * m) = 2 * m := IntWalk.i64_in _ (by omega)
  have e2 : IntKind.i64.wrap (2 * m + 1) = 2 * m + 1 := IntWalk.i64_in _ (by omega)
  have hb := around_bd n (2 * m + 1) (by omega)
  have HA := bx (around_calls n (2 * m + 1) w h0 h1 (by omega) (by omega))
  have HX := bx (show around n (2 * m + 1) - m = boundI n m from rfl)
  generalize around n (2 * m + 1) = y at *
  have e3 : IntKind.i64.wrap (y - m) = y - m := IntWalk.i64_in _ (by omega)
  go_enter Try.func44, Try.ntmps44
  go_wp2_with fail
  refine HA.out.mono ?_
  rintro e w1 ⟨rfl, rfl⟩
  go_wp2
  go_ret
  exact ⟨ret_int HX.out, rfl⟩
end Go.Proofs.Ytpdbdpmlppbnnaa.Mo
namespace Go.Proofs.Ytpdbdpmlppbnnaa.Mo
open Go.RowKit Go.Shelf

def makeM (l : List Int) : Mon := ⟨pickI l 0 6, pickI l 1 21 - 10, pickI l 1 21 - 10 + pickI l 2 20, 1 + pickI l 4 (1 + pickI l 3 16), 1 + pickI l 3 16, pickI l 5 100, [], false⟩
/-- what is valid -/
structure GoodM (m : Mon) : Prop where
  par : 0 ≤ m.par ∧ m.par < 6
  low : -10 ≤ m.low ∧ m.low ≤ 10
  high : m.low ≤ m.high ∧ m.high ≤ 30
  need : 1 ≤ m.need ∧ m.need ≤ m.of
  of : 1 ≤ m.of ∧ m.of ≤ 16
  ev : 0 ≤ m.ev ∧ m.ev < 100
theorem makeM_good (l : List Int) : GoodM (makeM l) := by
  have h0 := pick_bd l 0 6 (by decide)
  have h1 := pick_bd l 1 21 (by decide)
  have h2 := pick_bd l 2 20 (by decide)
  have h3 := pick_bd l 3 16 (by decide)
  have h4 := pick_bd l 4 (1 + pickI l 3 16) (by omega)
  have h5 := pick_bd l 5 100 (by decide)
  constructor <;> simp only [makeM] <;> omega
/-- what Make answers -/
def MakePost (w : World) (m : Mon) (e : Ending) (w' : World) : Prop := e = .returned (.agg (mcs m (.slice none 0 0))) ∧ From w w'
set_option maxRecDepth 100000 in
set_option maxHeartbeats 1000000 in
theorem makeM_calls (A : Option Addr) (c : Nat) (l : List Int) (w : World) (h : Ints w (.slice A l.length c) l) (hx : ∀ x ∈ l, -9223372036854775808 ≤ x ∧ x ≤ 9223372036854775807) (m : Mon) (hm : makeM l = m) :
    Calls Try.prog 71 #[.slice A l.length c] w (MakePost w m) := by
  have h0 := pick_bd l 0 6 (by decide)
  have h1 := pick_bd l 1 21 (by decide)
  have h2 := pick_bd l 2 20 (by decide)
  have h3 := pick_bd l 3 16 (by decide)
  have h4 := pick_bd l 4 (1 + pickI l 3 16) (by omega)
  have h5 := pick_bd l 5 100 (by decide)
  have P0 := bx (fun (W : World) (k : From w W) (y : Int) (hy : pickI l 0 6 = y) => pick_calls A c l 0 6 W (h.from k) hx (by decide) (by decide) y hy)
  have P1 := bx (fun (W : World) (k : From w W) (y : Int) (hy : pickI l 1 21 = y) => pick_calls A c l 1 21 W (h.from k) hx (by decide) (by decide) y hy)
  have P2 := bx (fun (W : World) (k : From w W) (y : Int) (hy : pickI l 2 20 = y) => pick_calls A c l 2 20 W (h.from k) hx (by decide) (by decide) y hy)
  have P3 := bx (fun (W : World) (k : From w W) (y : Int) (hy : pickI l 3 16 = y) => pick_calls A c l 3 16 W (h.from k) hx (by decide) (by decide) y hy)
  have P4 := bx (fun (W : World) (k : From w W) (z y : Int) (hz : 1 + pickI l 3 16 = z) (hy : pickI l 4 z = y) => pick_calls A c l 4 z W (h.from k) hx (by omega) (by omega) y hy)
  have P5 := bx (fun (W : World) (k : From w W) (y : Int) (hy : pickI l 5 100 = y) => pick_calls A c l 5 100 W (h.from k) hx (by decide) (by decide) y hy)
  rw [makeM] at hm
  obtain ⟨y0, e0⟩ : ∃ y, pickI l 0 6 = y := ⟨_, rfl⟩
  obtain ⟨y1, e1⟩ : ∃ y, pickI l 1 21 = y := ⟨_, rfl⟩
  obtain ⟨y2, e2⟩ : ∃ y, pickI l 2 20 = y := ⟨_, rfl⟩
  obtain ⟨y3, e3⟩ : ∃ y, pickI l 3 16 = y := ⟨_, rfl⟩
  obtain ⟨y4, e4⟩ : ∃ y, pickI l 4 (1 + pickI l 3 16) = y := ⟨_, rfl⟩
  obtain ⟨y5, e5⟩ : ∃ y, pickI l 5 100 = y := ⟨_, rfl⟩
  rw [e3] at e4 h4
  rw [e0, e1, e2, e3, e4, e5] at hm
  rw [e0] at h0
  rw [e1] at h1
  rw [e2] at h2
  rw [e3] at h3
  rw [e4] at h4
  rw [e5] at h5
  have E0 := bx e0
  have E1 := bx e1
  have E2 := bx e2
  have E3 := bx e3
  have E4 := bx e4
  have E5 := bx e5
  have HM := bx hm
  clear h hx e0 e1 e2 e3 e4 e5 hm
  have w1 : IntKind.i64.wrap (y1 - 10) = y1 - 10 := IntWalk.i64_in _ (by omega)
  have w2 : IntKind.i64.wrap (1 + y3) = 1 + y3 := IntWalk.i64_in _ (by omega)
  have w3 : IntKind.i64.wrap (y1 - 10 + y2) = y1 - 10 + y2 := IntWalk.i64_in _ (by omega)
  have w4 : IntKind.i64.wrap (1 + y4) = 1 + y4 := IntWalk.i64_in _ (by omega)
  obtain ⟨W1, hW1⟩ : ∃ V, w.alloc (.cells (mcs ⟨0, 0, 0, 0, 0, 0, [], false⟩ (.slice none 0 0)) 114) = V := ⟨_, rfl⟩
  have k1 : From w W1 := by rw [← hW1]; exact From.alloc (From.refl _) _
  go_enter Try.func71, Try.ntmps71
  go_wp2_with fail
  refine (P0.out _ k1 y0 E0.out).mono ?_
  rintro e V ⟨rfl, rfl⟩
  go_wp2_with fail
  refine (P1.out _ k1 y1 E1.out).mono ?_
  rintro e V ⟨rfl, rfl⟩
  go_wp2_with fail
  refine (P3.out _ k1 y3 E3.out).mono ?_
  rintro e V ⟨rfl, rfl⟩
  go_wp2_with fail
  refine (P5.out _ k1 y5 E5.out).mono ?_
  rintro e V ⟨rfl, rfl⟩
  have s1 : V.heap.size = w.heap.size + 1 := by rw [← hW1]; simp
  have M0 := bx (show MonC V w.heap.size ⟨0, 0, 0, 0, 0, 0, [], false⟩ (.slice none 0 0) by rw [← hW1]; exact MonC.new w _ _)
  clear hW1
  go_wp2_with fail
  obtain ⟨V2, hV2⟩ : ∃ X, V.alloc (.cells (mcs ⟨y0, y1 - 10, 0, 0, 1 + y3, y5, [], false⟩ (.slice none 0 0)) 114) = X := ⟨_, rfl⟩
  have k2 : From V V2 := by rw [← hV2]; exact From.alloc (From.refl _) _
  have M1 := bx (show MonC V2 (w.heap.size + 1) ⟨y0, y1 - 10, 0, 0, 1 + y3, y5, [], false⟩ (.slice none 0 0) by rw [← hV2, ← s1]; exact MonC.new V _ _)
  replace M0 := bx (M0.out.from k2)
  have kk := k1.trans k2
  rw [hV2]
  clear k2
  obtain ⟨a0, a1, a2, a3, a4, a5, a6, a7⟩ := M1.out.facts
  have fr := M1.out.soft 2
  simp only at a0 a1 a2 a3 a4 a5 a6 a7
  clear hV2
  go_region_with (go_at_call 59; refine (P2.out _ (by first | exact kk | exact kk.drew) y2 E2.out).mono ?_; rintro e V3 ⟨rfl, rfl⟩)
  all_goals
    have M2 : MonC (V2.setCell ⟨w.heap.size + 1, 2, none⟩ (.int .i64 (y1 - 10 + y2))).drew (w.heap.size + 1) ⟨y0, y1 - 10, y1 - 10 + y2, 0, 1 + y3, y5, [], false⟩ (.slice none 0 0) := MonC.from ⟨heap_set_at M1.out.out 2 _⟩ (From.drew (From.refl _))
    have M3 : MonC (V2.setCell ⟨w.heap.size + 1, 2, none⟩ (.int .i64 (y1 - 10 + y2))).drew w.heap.size ⟨0, 0, 0, 0, 0, 0, [], false⟩ (.slice none 0 0) := (M0.out.off (by omega) _ _).from (From.drew (From.refl _))
    have k4 : From w (V2.setCell ⟨w.heap.size + 1, 2, none⟩ (.int .i64 (y1 - 10 + y2))).drew := (From.setCell kk (by omega) _ _).drew
    generalize (V2.setCell ⟨w.heap.size + 1, 2, none⟩ (.int .i64 (y1 - 10 + y2))).drew = V4 at *
    clear a0 a1 a2 a3 a4 a5 a6 a7 fr
    obtain ⟨a0, a1, a2, a3, a4, a5, a6, a7⟩ := M2.facts
    obtain ⟨b0, b1, b2, b3, b4, b5, b6, b7⟩ := M3.facts
    have fr := M2.soft
    have fs := M3.soft
    simp only at a0 a1 a2 a3 a4 a5 a6 a7 b0 b1 b2 b3 b4 b5 b6 b7
    go_wp2_with fail
    refine (P4.out _ k4 (1 + y3) y4 (by rw [E3.out]) E4.out).mono ?_
    rintro e V5 ⟨rfl, rfl⟩
    go_wp2_with fail
    refine bodyPost_ret (v := .agg (mcs ⟨y0, y1 - 10, y1 - 10 + y2, 1 + y4, 1 + y3, y5, [], false⟩ (.slice none 0 0))) (by simp [results, Try.results71, go_sem, b0, b1, b2, b3, b4, b5, b6, b7]) rfl ⟨by rw [← HM.out], ?_⟩
    exact From.set8 (k4.setCell (by omega) _ _) (by omega) ⟨y0, y1 - 10, y1 - 10 + y2, 1 + y4, 1 + y3, y5, [], false⟩ _
end Go.Proofs.Ytpdbdpmlppbnnaa.Mo
namespace Go.Proofs.Ytpdbdpmlppbnnaa.Mo
open Go.RowKit Go.Shelf

def checkM (m : Mon) (params : Int) : Int := if m.par < 0 ∨ params ≤ m.par ∨ m.high < m.low ∨ m.need < 1 ∨ m.of < m.need ∨ 16 < m.of ∨ m.ev < 0 ∨ 99 < m.ev then 5 else if m.of < (m.past.length : Int) then 7 else 0
set_option maxRecDepth 100000 in
set_option maxHeartbeats 1000000 in
theorem check_calls (m : Mon) (A : Option Addr) (c : Nat) (pr : Int) (w : World) (x : Int) (hx : checkM m pr = x) :
    Calls Try.prog 76 #[.agg (mcs m (.slice A m.past.length c)), .int .i64 pr] w fun e w' => e = .returned (.int .i64 x) ∧ From w w' := by
  obtain ⟨W1, hW1⟩ : ∃ V, w.alloc (.cells (mcs m (.slice A m.past.length c)) 114) = V := ⟨_, rfl⟩
  have k1 : From w W1 := by rw [← hW1]; exact From.alloc (From.refl _) _
  have M1 : MonC W1 w.heap.size m (.slice A m.past.length c) := by rw [← hW1]; exact MonC.new w m _
  obtain ⟨a0, a1, a2, a3, a4, a5, a6, a7⟩ := M1.facts
  obtain ⟨mp, ml, mh, mn, mo, me, mps, mr⟩ := m
  simp only [checkM] at hx a0 a1 a2 a3 a4 a5 a6 a7 hW1 M1
  have HX := bx hx
  clear hx M1
  go_enter Try.func76, Try.ntmps76
  go_wp2
  all_goals
    go_ret
    refine ⟨ret_int ?_, k1⟩
    rw [← HX.out]
    split
    · first | rfl | (exfalso; omega)
    · first | rfl | (exfalso; omega) | (split <;> first | rfl | (exfalso; omega))
end Go.Proofs.Ytpdbdpmlppbnnaa.Mo
namespace Go.Proofs.Ytpdbdpmlppbnnaa.Mo
open Go.RowKit Go.Shelf

def cmpI (x y : Int) : Int := if x < y then -1 else if y < x then 1 else 0
theorem cmpI_lt (x y : Int) : cmpI x y < 0 ↔ x < y := by
  unfold cmpI
  split
  · simp [*]
  · split <;> simp [*]
set_option maxRecDepth 100000 in
theorem compare_calls (x y : Int) (w : World) : Calls Try.prog 50 #[.int .i64 x, .int .i64 y] w fun e w' => e = .returned (.int .i64 (cmpI x y)) ∧ w' = w := by
  obtain ⟨z, hz⟩ : ∃ z, cmpI x y = z := ⟨_, rfl⟩
  rw [hz]
  rw [cmpI] at hz
  have HZ := bx hz
  clear hz
  go_enter Try.func50, Try.ntmps50
  go_wp2
  all_goals
    go_ret
    refine ⟨ret_int ?_, rfl⟩
    rw [← HZ.out]
    split
    · first | rfl | (exfalso; omega)
    · first | rfl | (exfalso; omega) | (split <;> first | rfl | (exfalso; omega))
theorem insInner_go (a j : Nat) (d : Array Int) (hj : a < j) (hl : Sort.ltInt d[j]! d[j - 1]! = true) : Sort.insInner Sort.ltInt a j d = Sort.insInner Sort.ltInt a (j - 1) (Sort.swp d j (j - 1)) := by
  obtain ⟨k, rfl⟩ : ∃ k, j = k + 1 := ⟨j - 1, by omega⟩
  rw [Sort.insInner]
  simp only [Nat.add_sub_cancel] at hl ⊢
  simp [hj, hl]
theorem insInner_stop (a j : Nat) (d : Array Int) (h : j ≤ a ∨ Sort.ltInt d[j]! d[j - 1]! = false) : Sort.insInner Sort.ltInt a j d = d := by
  cases j with
  | zero => rw [Sort.insInner]
  | succ k =>
    rw [Sort.insInner]
    simp only [Nat.add_sub_cancel] at h
    rcases h with h | h
    · simp [show ¬ k + 1 > a by omega]
    · simp [h]
theorem putRow_drewN (enc : Int → Value) (w : World) (m q blk off : Nat) (d : Array Int) : (Sort.putRow enc (Sort.ahead w m) blk off d).drewN q = Sort.putRow enc (Sort.ahead w (m + q)) blk off d := by
  show Sort.ahead (Sort.putRow enc (Sort.ahead w m) blk off d) q = _
  rw [Sort.putRow_ahead enc w m, Sort.ahead_ahead, ← Sort.putRow_ahead]
theorem swap_worldA (enc : Int → Value) (w : World) (m q blk off : Nat) (d : Array Int) (j k : Nat) (hj : j < d.size) (hk : k < d.size) :
    (((Sort.putRow enc (Sort.ahead w m) blk off d).drewN q).setCell ⟨blk, off + j, none⟩ (enc d[k]!)).setCell ⟨blk, off + k, none⟩ (enc d[j]!) = Sort.putRow enc (Sort.ahead w (m + q)) blk off (Sort.swp d j k) := by
  rw [putRow_drewN]
  exact Sort.putRow_swp enc _ blk off d j k hj hk
theorem insOuter_go (a b i : Nat) (d : Array Int) (h : i < b) : Sort.insOuter Sort.ltInt a b i d = Sort.insOuter Sort.ltInt a b (i + 1) (Sort.insInner Sort.ltInt a i d) := by rw [Sort.insOuter, if_pos h]
theorem insOuter_stop (a b i : Nat) (d : Array Int) (h : ¬ i < b) : Sort.insOuter Sort.ltInt a b i d = d := by rw [Sort.insOuter, if_neg h]

set_option maxRecDepth 100000 in
theorem insSort_calls (blk off cap a b : Nat) (d : Array Int) (w : World) (hH : Sort.Holds (Value.int .i64) w blk off d) (hab : a ≤ b) (hb : b ≤ d.size) (hsz : d.size < 4611686018427387904) :
    Calls Try.prog 101 #[.slice (some ⟨blk, off, none⟩) d.size cap, .int .i64 a, .int .i64 b, .func (.func 50) #[] #[]] w fun e w' =>
      e = .returned (.tuple #[]) ∧ ∃ n, w' = Sort.putRow (Value.int .i64) (Sort.ahead w n) blk off (Sort.insertionSort Sort.ltInt d a b) := by
  go_enter Try.func101, Try.ntmps101
  go_wp2
  go_loopw [8, 9] (fun vi _ wr => ∃ (i n : Nat) (dk : Array Int), vi = .int .i64 i ∧ a < i ∧ i ≤ b + 1 ∧ dk.size = d.size ∧ wr = Sort.putRow (Value.int .i64) (Sort.ahead w n) blk off dk ∧
      Sort.insOuter Sort.ltInt a b i dk = Sort.insOuter Sort.ltInt a b (a + 1) d) (fun vi _ _ => b + 1 - (intOf vi).toNat)
  case atStart => exact ⟨a + 1, 0, d, by go_num, by omega, by omega, rfl, (Sort.putRow_self _ _ _ _ _ hH).symm, rfl⟩
  case round =>
    obtain ⟨i, n, dk, rfl, hai, hib, hsk, hwr, hO⟩ := hrel
    have HO := bx hO
    clear hO
    by_cases hlt : i < b
    · go_wp2
      go_loopw [9] (fun vj wr2 => ∃ (j m : Nat) (dj : Array Int), vj = .int .i64 j ∧ a ≤ j ∧ j ≤ i ∧ dj.size = d.size ∧ wr2 = Sort.putRow (Value.int .i64) (Sort.ahead w m) blk off dj ∧
          Sort.insInner Sort.ltInt a j dj = Sort.insInner Sort.ltInt a i dk) (fun vj _ => (intOf vj).toNat)
      case atStart => exact ⟨i, n, dk, rfl, by omega, Nat.le_refl _, hsk, by first | exact hwr | rfl, rfl⟩
      case round =>
        obtain ⟨j, m, dj, rfl, haj, hji, hsj, hw2, hI⟩ := hrel
        obtain ⟨G, hG⟩ : ∃ G : Nat → Int, ∀ t, G t = dj[t]! := ⟨fun t => dj[t]!, fun _ => rfl⟩
        have hcw : ∀ t, t < d.size → wr.cell? ⟨blk, off + t, none⟩ = some (.int .i64 (G t)) := fun t ht => by
          rw [hw2, hG]; exact Sort.cell?_putRow _ _ _ _ d dj (Sort.holds_ahead _ _ _ _ _ _ hH) hsj t (by omega)
        have hfw : ∀ t, t < d.size → wr.frozen? ⟨blk, off + t, none⟩ = false := fun t ht => by
          rw [hw2, Sort.frozen?_putRow]; exact ((Sort.holds_ahead _ _ m _ _ _ hH) t ht).2
        have HW := bx hw2
        have HG := bx hG
        have HI := bx hI
        have HH := bx hH
        clear hw2 hG hI hH hwr
        have out : (j ≤ a ∨ Sort.ltInt dj[j]! dj[j - 1]! = false) → ∀ q, ∃ i' n' dk', Value.int .i64 ((i : Int) + 1) = .int .i64 (i' : Nat) ∧ a < i' ∧ i' ≤ b + 1 ∧ dk'.size = d.size ∧
            wr.drewN q = Sort.putRow (Value.int .i64) (Sort.ahead w n') blk off dk' ∧ Sort.insOuter Sort.ltInt a b i' dk' = Sort.insOuter Sort.ltInt a b (a + 1) d := fun hs q =>
          ⟨i + 1, m + q, dj, by go_num, by omega, by omega, hsj, by rw [HW.out]; exact putRow_drewN _ _ _ _ _ _ _,
            by rw [← HO.out, insOuter_go _ _ _ _ hlt, ← HI.out, insInner_stop _ _ _ hs]⟩
        have OUT := bx out
        clear out
        go_wp2
        by_cases hja : a < j
        · go_quiet (first | (go_at_call 50; refine Calls.quiet_of_same (compare_calls _ _ _)))
          go_wp2
          · have hl : Sort.ltInt (G j) (G (j - 1)) = true := decide_eq_true ((cmpI_lt _ _).1 (by assumption))
            go_region
            all_goals go_wp2
            go_roundw
            case rel =>
              refine ⟨j - 1, m + (nq + 1), Sort.swp dj j (j - 1), by congr 1; omega, by omega, by omega, by rw [Sort.size_swp]; exact hsj, ?_, ?_⟩
              · rw [HW.out, HG.out, HG.out]
                exact swap_worldA _ w m (nq + 1) blk off dj j (j - 1) (by omega) (by omega)
              · rw [← HI.out, insInner_go a j dj hja (by rw [← HG.out, ← HG.out]; exact hl)]
            case measure => simp [intOf]; omega
          · have hl : Sort.ltInt (G j) (G (j - 1)) = false := decide_eq_false (fun hh => absurd ((cmpI_lt _ _).2 hh) (by omega))
            go_roundw
            case rel => exact OUT.out (Or.inr (by rw [← HG.out, ← HG.out]; exact hl)) nq
            case measure => simp [intOf]; omega
        · go_quiet (first | (go_at_call 50; refine Calls.quiet_of_same (compare_calls _ _ _)))
          go_wp2
          go_roundw
          case rel => exact OUT.out (Or.inl (by omega)) nq
          case measure => simp [intOf]; omega
    · go_wp2
      go_end0
      exact ⟨rfl, n, by unfold Sort.insertionSort; rw [← HO.out, insOuter_stop _ _ _ _ hlt]⟩
end Go.Proofs.Ytpdbdpmlppbnnaa.Mo
namespace Go.Proofs.Ytpdbdpmlppbnnaa.Mo
open Go.RowKit Go.Shelf

/-- some number is answered -/
def SomeInt (w : World) (e : Ending) (w' : World) : Prop := (∃ k : Int, e = .returned (.int .i64 k)) ∧ w' = w
set_option maxRecDepth 100000 in
theorem len64_calls (x : Int) (w : World) (h0 : 0 ≤ x) (h1 : x < 256) : Calls Try.prog 119 #[.int .u64 x] w (SomeInt w) := by
  go_enter Try.func119, Try.ntmps119
  go_wp2
  all_goals (go_ret; exact ⟨⟨_, rfl⟩, rfl⟩)
theorem len_calls (x : Int) (w : World) (h0 : 0 ≤ x) (h1 : x < 256) : Calls Try.prog 109 #[.int .u64 x] w (SomeInt w) := by
  go_enter Try.func109, Try.ntmps109
  go_wp2_with fail
  refine (len64_calls x w h0 h1).mono ?_
  rintro e w1 ⟨⟨k, rfl⟩, rfl⟩
  go_wp2
  go_ret
  exact ⟨⟨k, rfl⟩, rfl⟩
set_option maxRecDepth 100000 in
theorem pdq_calls (blk off cap b : Nat) (k : Int) (d : Array Int) (w : World) (hH : Sort.Holds (Value.int .i64) w blk off d) (hb : b ≤ d.size) (hb12 : b ≤ 12) (hsz : d.size < 4611686018427387904) :
    Calls Try.prog 108 #[.slice (some ⟨blk, off, none⟩) d.size cap, .int .i64 0, .int .i64 b, .int .i64 k, .func (.func 50) #[] #[]] w fun e w' =>
      e = .returned (.tuple #[]) ∧ ∃ n, w' = Sort.putRow (Value.int .i64) (Sort.ahead w n) blk off (Sort.insertionSort Sort.ltInt d 0 b) := by
  have HI := bx (insSort_calls blk off cap 0 b d w hH (by omega) hb hsz)
  go_enter Try.func108, Try.ntmps108
  go_wp2_with fail
  refine wp_loop_rounds 1 ?_
  rw [rounds_succ]
  have d1 : decide ((b : Int) ≤ 12) = true := decide_eq_true (by omega)
  go_wp2_with fail
  refine HI.out.mono ?_
  rintro e w1 ⟨rfl, n, rfl⟩
  go_wp2
  refine bodyPost_ret (v := .tuple #[]) (by simp [results, Try.results108, go_sem]) rfl ⟨rfl, n, rfl⟩
set_option maxRecDepth 100000 in
theorem sortF_calls (blk off cap : Nat) (d : Array Int) (w : World) (hH : Sort.Holds (Value.int .i64) w blk off d) (hb12 : d.size ≤ 12) :
    Calls Try.prog 99 #[.slice (some ⟨blk, off, none⟩) d.size cap, .func (.func 50) #[] #[]] w fun e w' =>
      e = .returned (.tuple #[]) ∧ ∃ n, w' = Sort.putRow (Value.int .i64) (Sort.ahead w n) blk off (Sort.insertionSort Sort.ltInt d 0 d.size) := by
  have HL := bx (len_calls (d.size : Int) w (by omega) (by omega))
  have HP := bx (fun k => pdq_calls blk off cap d.size k d w hH (Nat.le_refl _) hb12 (by omega))
  go_enter Try.func99, Try.ntmps99
  go_wp2_with fail
  refine HL.out.mono ?_
  rintro e w1 ⟨⟨k, rfl⟩, rfl⟩
  go_wp2_with fail
  refine (HP.out k).mono ?_
  rintro e w2 ⟨rfl, n, rfl⟩
  go_wp2
  go_end0
  exact ⟨rfl, n, rfl⟩
end Go.Proofs.Ytpdbdpmlppbnnaa.Mo
namespace Go.Proofs.Ytpdbdpmlppbnnaa.Mo
open Go.RowKit Go.Shelf

/-- a list without equal neighbours -/
def adjStep (acc : List Int) (x : Int) : List Int := if acc.getLast? = some x then acc else acc ++ [x]
def adj (l : List Int) : List Int := l.foldl adjStep []
theorem adj_snoc (l : List Int) (x : Int) : adj (l ++ [x]) = adjStep (adj l) x := by simp [adj]
theorem adj_last (l : List Int) : (adj l).getLast? = l.getLast? := by
  induction l using snoc_ind with
  | h0 => rfl
  | h1 l x ih =>
    rw [adj_snoc, adjStep]
    split
    · rename_i h; rw [h]; simp
    · simp
theorem adj_succ (l : List Int) (k : Nat) (hk : k < l.length) (h0 : 0 < k) : adj (l.take (k + 1)) = if l[k - 1] = l[k] then adj (l.take k) else adj (l.take k) ++ [l[k]] := by
  rw [List.take_succ_eq_append_getElem hk, adj_snoc, adjStep, adj_last]
  have : (l.take k).getLast? = some l[k - 1] := by
    rw [List.getLast?_eq_getElem?, List.getElem?_take]
    rw [List.length_take, Nat.min_eq_left (by omega), if_pos (by omega), List.getElem?_eq_getElem (by omega)]
  rw [this]
  simp
theorem adj_len (l : List Int) : (adj l).length ≤ l.length := by
  induction l using snoc_ind with
  | h0 => simp [adj]
  | h1 l x ih =>
    rw [adj_snoc, adjStep]
    split <;> simp <;> omega
theorem adj_one (l : List Int) (h : l.length < 2) : adj l = l := by
  match l, h with
  | [], _ => rfl
  | [x], _ => rfl
set_option maxRecDepth 100000 in
theorem adj_mem (l : List Int) (x : Int) : x ∈ adj l ↔ x ∈ l := by
  induction l using snoc_ind with
  | h0 => simp [adj]
  | h1 l y ih =>
    rw [adj_snoc, adjStep]
    split
    · rename_i h
      have : y ∈ adj l := List.mem_of_getLast? h
      simp only [List.mem_append, List.mem_singleton, ← ih]
      constructor
      · exact .inl
      · rintro (h | rfl)
        · exact h
        · exact this
    · simp [ih]
set_option maxRecDepth 100000 in
theorem adj_strict (l : List Int) (h : l.Pairwise (· ≤ ·)) : (adj l).Pairwise (· < ·) := by
  induction l using snoc_ind with
  | h0 => simp [adj]
  | h1 l y ih =>
    rw [List.pairwise_append] at h
    obtain ⟨h1, _, h2⟩ := h
    rw [adj_snoc, adjStep]
    split
    · exact ih h1
    · rename_i hne
      rw [List.pairwise_append]
      refine ⟨ih h1, by simp, ?_⟩
      intro a ha b hb
      simp at hb
      subst hb
      have hle := h2 a ((adj_mem l a).1 ha) b (by simp)
      by_cases hab : a = b
      · exfalso
        subst hab
        -- a is in adj l and every element of l is at most a: so a is its last element
        apply hne
        have hs := ih h1
        obtain ⟨p, q, e⟩ := List.append_of_mem ha
        rw [e] at hs ⊢
        rcases hq : q.getLast? with _ | z
        · rw [List.getLast?_eq_none_iff] at hq
          subst hq
          simp
        · exfalso
          have hz : z ∈ q := List.mem_of_getLast? hq
          have := (List.pairwise_append.1 hs).2.1
          have h3 := (List.pairwise_cons.1 this).1 z hz
          have h4 := h2 z ((adj_mem l z).1 (by rw [e]; simp [hz])) a (by simp)
          omega
      · omega
set_option maxRecDepth 100000 in
/-- two strictly increasing lists with the same elements are equal -/
theorem strict_eq : ∀ {l k : List Int}, l.Pairwise (· < ·) → k.Pairwise (· < ·) → (∀ x, x ∈ l ↔ x ∈ k) → l = k
  | [], [], _, _, _ => rfl
  | [], y :: k, _, _, h => absurd ((h y).2 (by simp)) (by simp)
  | x :: l, [], _, _, h => absurd ((h x).1 (by simp)) (by simp)
  | x :: l, y :: k, hl, hk, h => by
    obtain ⟨h1, h2⟩ := List.pairwise_cons.1 hl
    obtain ⟨h3, h4⟩ := List.pairwise_cons.1 hk
    have hxy : x = y := by
      rcases List.mem_cons.1 ((h x).1 (by simp)) with e | e
      · exact e
      · rcases List.mem_cons.1 ((h y).2 (by simp)) with e' | e'
        · exact e'.symm
        · have := h1 y e'; have := h3 x e; omega
    subst hxy
    rw [strict_eq h2 h4 (fun z => by
      have hz := h z
      simp only [List.mem_cons] at hz
      constructor
      · intro hm
        rcases hz.1 (.inr hm) with e | e
        · subst e; have := h1 z hm; omega
        · exact e
      · intro hm
        rcases hz.2 (.inr hm) with e | e
        · subst e; have := h3 z hm; omega
        · exact e)]
end Go.Proofs.Ytpdbdpmlppbnnaa.Mo
namespace Go.Proofs.Ytpdbdpmlppbnnaa.Mo
open Go.RowKit Go.Shelf

/-- what Compact leaves: the row of the slice is turned, its first elements are r -/
def CompPost (blk off cap : Nat) (d : Array Int) (r : List Int) (w : World) (e : Ending) (w' : World) : Prop :=
  e = .returned (.slice (some ⟨blk, off, none⟩) r.length cap) ∧ ∃ (n : Nat) (d' : Array Int), w' = Sort.putRow (Value.int .i64) (Sort.ahead w n) blk off d' ∧ d'.size = d.size ∧ ∀ t, t < r.length → d'[t]? = r[t]?
theorem put_zeros (w : World) (blk off : Nat) : ∀ (m k : Nat) (d : Array Int), k + m ≤ d.size → ∃ d' : Array Int, (Sort.putRow (Value.int .i64) w blk off d).setCells blk (off + k) (List.replicate m (.int .i64 0)) = Sort.putRow (Value.int .i64) w blk off d' ∧ d'.size = d.size ∧ ∀ t, t < k → d'[t]? = d[t]?
  | 0, k, d, _ => ⟨d, rfl, rfl, fun _ _ => rfl⟩
  | m + 1, k, d, h => by
    obtain ⟨d', h1, h2, h3⟩ := put_zeros w blk off m (k + 1) (d.setIfInBounds k 0) (by simp; omega)
    refine ⟨d', ?_, by simpa using h2, fun t ht => ?_⟩
    · rw [List.replicate_succ, World.setCells, Sort.putRow_set _ _ _ _ _ _ _ (by omega), Nat.add_assoc]
      exact h1
    · rw [h3 t (by omega), Array.getElem?_setIfInBounds, if_neg (by omega)]
/-- the head of the inner loop: the first k + j elements are compacted, the rest stands from place k + j - 1 on -/
structure CompIn (w : World) (blk off : Nat) (d : Array Int) (l : List Int) (k p j : Nat) (wr : World) : Prop where
  j1 : 1 ≤ j
  jn : j ≤ d.size - k
  len : p = (adj (l.take (k + j))).length
  le : p ≤ k + j - 1
  row : ∃ (m : Nat) (dj : Array Int), dj.size = d.size ∧ (∀ t, t < p → dj[t]? = (adj (l.take (k + j)))[t]?) ∧ (∀ t, k + j - 1 ≤ t → dj[t]! = d[t]!) ∧ wr = Sort.putRow (Value.int .i64) (Sort.ahead w m) blk off dj
set_option maxRecDepth 100000 in
set_option maxHeartbeats 1000000 in
theorem compact_calls (blk off cap : Nat) (d : Array Int) (w : World) (hH : Sort.Holds (Value.int .i64) w blk off d) (hc : d.size ≤ cap) (hcm : cap ≤ 9223372036854775807) :
    Calls Try.prog 100 #[.slice (some ⟨blk, off, none⟩) d.size cap] w (CompPost blk off cap d (adj d.toList) w) := by
  by_cases h2 : d.size < 2
  · have hr : adj d.toList = d.toList := adj_one _ (by simpa using h2)
    have HR := bx hr
    have HH := bx hH
    clear hr hH
    go_enter Try.func100, Try.ntmps100
    go_wp2
    go_ret
    exact ⟨ret_slice (by rw [HR.out]; simp), 0, d, (Sort.putRow_self _ _ _ _ _ HH.out).symm, rfl, fun t _ => by rw [HR.out]; simp⟩
  · obtain ⟨l, hl⟩ : ∃ l, d.toList = l := ⟨_, rfl⟩
    have hls : l.length = d.size := by rw [← hl]; simp
    obtain ⟨G, hG⟩ : ∃ G : Nat → Int, ∀ t, G t = d[t]! := ⟨fun t => d[t]!, fun _ => rfl⟩
    have hGl : ∀ t (ht : t < l.length), G t = l[t] := fun t ht => by subst hl; rw [hG]; simp at ht; simp [ht]
    have HL := bx hl
    have HGL := bx hGl
    have HH := bx hH
    have HG := bx hG
    rw [hl]
    have hcells : ∀ m, ∀ t, t < d.size → (Sort.putRow (Value.int .i64) (Sort.ahead w m) blk off d).cell? ⟨blk, off + t, none⟩ = some (.int .i64 (G t)) := fun m t ht => by
      rw [hG]; exact Sort.cell?_putRow _ _ _ _ d d (Sort.holds_ahead _ _ _ _ _ _ hH) rfl t ht
    have HC := bx hcells
    clear hl hGl hH hG hcells
    go_enter Try.func100, Try.ntmps100
    go_wp2
    go_loopw [3, 4, 5] (fun vk _ _ wr => ∃ (k m : Nat), vk = .int .i64 k ∧ 1 ≤ k ∧ k ≤ d.size ∧ adj (l.take k) = l.take k ∧ wr = Sort.putRow (Value.int .i64) (Sort.ahead w m) blk off d) (fun vk _ _ _ => d.size - (intOf vk).toNat)
    case atStart => exact ⟨1, 0, rfl, Nat.le_refl _, by omega, adj_one _ (by simp; omega), (Sort.putRow_self _ _ _ _ _ HH.out).symm⟩
    case round =>
      obtain ⟨k, m, rfl, hk1, hkn, hadj, hwr⟩ := hrel
      have HW := bx hwr
      have HA := bx hadj
      clear hadj hwr
      by_cases hlt : k < d.size
      · have c1 : wr.cell? ⟨blk, off + k, none⟩ = some (.int .i64 (G k)) := by rw [HW.out]; exact HC.out m k hlt
        have c2 : wr.cell? ⟨blk, off + (k - 1), none⟩ = some (.int .i64 (G (k - 1))) := by rw [HW.out]; exact HC.out m (k - 1) (by omega)
        have hS := adj_succ l k (by omega) (by omega)
        rw [← HGL.out, ← HGL.out] at hS
        have HS := bx hS
        clear hS
        by_cases he : G (k - 1) = G k
        · have t0 : (G k == G (k - 1)) = true := by simp [he]
          have HE := bx he
          have hck : ¬ cap = k := by omega
          clear he
          go_wp2_with fail
          go_quiet (fail)
          go_wp2_with fail
          have hst : adj (l.take (k + 1)) = l.take k := by rw [HS.out, if_pos HE.out, HA.out]
          have HST := bx hst
          clear hst c1 c2 t0
          go_loopw [3, 5] (fun vp vj wr2 => ∃ (p j : Nat), vp = .int .i64 p ∧ vj = .int .i64 j ∧ CompIn w blk off d l k p j wr2) (fun _ vj _ => d.size - k - (intOf vj).toNat)
          case atStart =>
            exact ⟨k, 1, rfl, rfl, ⟨Nat.le_refl _, by omega, by rw [HST.out, List.length_take]; omega, by omega, m + nq, d, rfl, fun t ht => by
              rw [HST.out, ← HL.out, List.getElem?_take, if_pos ht]; simp, fun _ _ => rfl, by rw [HW.out, putRow_drewN]⟩⟩
          case round =>
            obtain ⟨p, j, rfl, rfl, hin⟩ := hrel
            obtain ⟨hj1, hjn, hlen, hle, m2, dj, hsj, hpre, hpost, hw2⟩ := hin
            have HLEN := bx hlen
            have HPRE := bx hpre
            have HPOST := bx hpost
            have HW2 := bx hw2
            have hcw : ∀ t, t < d.size → wr.cell? ⟨blk, off + t, none⟩ = some (.int .i64 dj[t]!) := fun t ht => by
              rw [hw2]; exact Sort.cell?_putRow _ _ _ _ d dj (Sort.holds_ahead _ _ _ _ _ _ HH.out) hsj t (by omega)
            have hfw : ∀ t, t < d.size → wr.frozen? ⟨blk, off + t, none⟩ = false := fun t ht => by
              rw [hw2, Sort.frozen?_putRow]; exact ((Sort.holds_ahead _ _ m2 _ _ _ HH.out) t ht).2
            have HCW := bx hcw
            have HFW := bx hfw
            clear hlen hpre hpost hw2 hcw hfw
            by_cases hjl : j < d.size - k
            · have c1 : wr.cell? ⟨blk, off + k + j, none⟩ = some (.int .i64 (G (k + j))) := by rw [Nat.add_assoc, HCW.out _ (by omega), HPOST.out _ (by omega), HG.out]
              have c2 : wr.cell? ⟨blk, off + k + (j - 1), none⟩ = some (.int .i64 (G (k + j - 1))) := by rw [show off + k + (j - 1) = off + (k + j - 1) by omega, HCW.out _ (by omega), HPOST.out _ (by omega), HG.out]
              have hS := adj_succ l (k + j) (by omega) (by omega)
              rw [← HGL.out, ← HGL.out] at hS
              have HS2 := bx hS
              have z1 : (j : Int) < ((d.size - k : Nat) : Int) := by omega
              clear hS
              by_cases he : G (k + j - 1) = G (k + j)
              · have t0 : (G (k + j) != G (k + j - 1)) = false := by simp [he]
                have HE2 := bx he
                clear he
                go_wp2_with fail
                go_quiet (fail)
                go_wp2
                go_roundw
                case rel => exact ⟨p, j + 1, rfl, by go_num, ⟨by omega, by omega, by rw [← Nat.add_assoc, HS2.out, if_pos HE2.out]; exact HLEN.out, by omega, m2 + nq, dj, hsj, by rw [← Nat.add_assoc, HS2.out, if_pos HE2.out]; exact HPRE.out, fun t ht => HPOST.out t (by omega), by rw [HW2.out, putRow_drewN]⟩⟩
                case measure => simp [intOf]; omega
              · have t0 : (G (k + j) != G (k + j - 1)) = true := by simp; omega
                have HE2 := bx he
                have c3 := HCW.out p (by omega)
                have f3 := HFW.out p (by omega)
                have z2 : (p : Int) < (d.size : Int) := by omega
                clear he
                generalize dj[p]! = old at *
                go_wp2_with fail
                go_quiet (fail)
                go_wp2
                go_roundw
                case rel =>
                  refine ⟨p + 1, j + 1, by go_num, by go_num, ⟨by omega, by omega, by rw [← Nat.add_assoc, HS2.out, if_neg HE2.out, List.length_append, ← HLEN.out]; rfl, by omega, m2 + nq, dj.setIfInBounds p (G (k + j)), by simpa using hsj, fun t ht => ?_, fun t ht => ?_, ?_⟩⟩
                  · rw [← Nat.add_assoc, HS2.out, if_neg HE2.out, Array.getElem?_setIfInBounds]
                    by_cases htp : p = t
                    · subst htp
                      rw [if_pos rfl, if_pos (by omega)]
                      have := HLEN.out
                      rw [List.getElem?_append_right (by omega)]
                      rw [← this, Nat.sub_self, HGL.out _ (by omega)]
                      rfl
                    · rw [if_neg htp, HPRE.out t (by omega), List.getElem?_append_left (by have := HLEN.out; omega)]
                  · have := Sort.getElem!_set_other dj p t (G (k + j)) (by omega)
                    rw [this]
                    exact HPOST.out t (by omega)
                  · rw [HW2.out, putRow_drewN]
                    exact Sort.putRow_set (Value.int .i64) _ _ _ _ _ _ (by omega)
                case measure => simp [intOf]; omega
            · obtain rfl : j = d.size - k := by omega
              have hkn2 : k + (d.size - k) = l.length := by omega
              have hfull : l.take (k + (d.size - k)) = l := List.take_of_length_le (by omega)
              have hp : p = (adj l).length := by rw [HLEN.out, hfull]
              have HP := bx hp
              have HFULL := bx hfull
              have hpn : p < d.size := by omega
              have hpc : ¬ cap = p := by omega
              have z1 : ¬ (((d.size - k : Nat) : Int) < ((d.size - k : Nat) : Int)) := by omega
              have hcl := Lib.run_clear_slice (P := Try.prog) wr 22 3 0 (.int .i64 0) Try.underlying22 (fun _ => by kernel_rfl) rfl rfl blk (off + p) (d.size - p) (cap - p) (by omega)
                (fun j hj => by rw [show off + p + j = off + (p + j) by omega, HCW.out (p + j) (by omega)]; rfl) (fun j hj => by rw [show off + p + j = off + (p + j) by omega]; exact HFW.out (p + j) (by omega))
              obtain ⟨d2, hz1, hz2, hz3⟩ := put_zeros (Sort.ahead w m2) blk off (d.size - p) p dj (by omega)
              rw [← HW2.out] at hz1
              rw [hz1] at hcl
              clear hp hfull hz1
              go_wp2
              go_ret
              exact ⟨ret_slice HP.out, m2, d2, rfl, by omega, fun t ht => by
                rw [hz3 t (by rw [HP.out]; exact ht), HPRE.out t (by rw [HP.out]; exact ht), HFULL.out]⟩
        · have t0 : (G k == G (k - 1)) = false := by simp; omega
          have HE := bx he
          clear he
          go_wp2_with fail
          go_quiet (fail)
          go_wp2
          go_roundw
          case rel => exact ⟨k + 1, m + nq, by go_num, by omega, by omega, by rw [HS.out, if_neg HE.out, HA.out, List.take_succ_eq_append_getElem (by omega), HGL.out], by rw [HW.out, putRow_drewN]⟩
          case measure => simp [intOf]; omega
      · obtain rfl : k = d.size := by omega
        have hr : adj l = l := by have := HA.out; rwa [List.take_of_length_le (by omega)] at this
        have HR := bx hr
        clear hr
        go_wp2
        go_ret
        exact ⟨ret_slice (by rw [HR.out, hls]), m, d, HW.out, rfl, fun t _ => by rw [HR.out, ← HL.out]; simp⟩
end Go.Proofs.Ytpdbdpmlppbnnaa.Mo
