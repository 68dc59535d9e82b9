/-
  What the walks of this seat share: facts hidden from the walk, slices in memory, rows of one's own, append.
-/
import Derived.Test.YtpdbdpmlppbnnaaProg
import Derived.WalkKit
import Derived.Outline
import Derived.WalkLawsBesides
import Derived.BigQuiet
import Derived.Deep.QuietTactic
import Derived.Deep.RegionHeld3
import Derived.Maps.AppendAt
import Derived.Laws.AppendOwnNone
import Derived.Deep.AppendLies
import Derived.StillTailTactics
import Derived.Lib.BufferMore
import Derived.Deep.DeepAppendRoom
import Derived.Deep.RegionLaw
import Derived.IntWalk
import Derived.Laws.OwnMore
import Derived.Below
import Derived.Carry
import Derived.Deep.Slices
import Derived.Deep.Fields
import Derived.WalkMore
import Derived.Shelf.Abstract
import Derived.Shelf.RegionOpen
import Derived.Deep.Upon
namespace Go.Proofs.Ytpdbdpmlppbnnaa
open Go.RowKit Go.Shelf

/-- a fact hidden from the walk -/
structure Bx (p : Prop) : Prop where
  out : p
theorem bx {p : Prop} (h : p) : Bx p := ⟨h⟩
theorem retv {a b : Value} (h : a = b) : Ending.returned a = Ending.returned b := by rw [h]
theorem ret_int {k : IntKind} {a b : Int} (h : a = b) : Ending.returned (.int k a) = Ending.returned (.int k b) := by rw [h]
theorem ret_bool {a b : Bool} (h : a = b) : Ending.returned (.bool a) = Ending.returned (.bool b) := by rw [h]
theorem ret_slice {A : Option Addr} {n m c : Nat} (h : n = m) : Ending.returned (.slice A n c) = Ending.returned (.slice A m c) := by rw [h]
theorem below_drewN {B : Nat} {W W' : World} (h : Below B W W') (n : Nat) : Below B W (W'.drewN n) := by
  induction n with
  | zero => exact h
  | succ n ih => exact ih.drew
theorem size_drewN (w : World) (n : Nat) : (w.drewN n).heap.size = w.heap.size := by
  induction n with
  | zero => rfl
  | succ n ih => exact ih
theorem drewN_add (w : World) (m n : Nat) : (w.drewN m).drewN n = w.drewN (m + n) := by
  induction n with
  | zero => rfl
  | succ n ih => show ((w.drewN m).drewN n).drew = _; rw [ih]; rfl
theorem heap_drewN (W : World) (q B : Nat) : (W.drewN q).heap[B]? = W.heap[B]? := by rw [show (W.drewN q).heap = W.heap by simp]
/-- nothing of the world W0 has turned -/
abbrev From (W0 W : World) : Prop := Below W0.heap.size W0 W
theorem From.refl (W : World) : From W W := Below.refl _ _
theorem From.trans {W0 W W' : World} (h : From W0 W) (k : From W W') : From W0 W' := Below.trans h (k.mono h.size)
theorem From.drew {W0 W : World} (h : From W0 W) : From W0 W.drew := Below.drew h
theorem From.alloc {W0 W : World} (h : From W0 W) (o : Obj) : From W0 (W.alloc o) := Below.alloc h h.size o
theorem From.drewN {W0 W : World} (h : From W0 W) (m : Nat) : From W0 (W.drewN m) := below_drewN h m
theorem frozen_alloc_lt {w : World} {a : Addr} (o : Obj) (h : a.block < w.heap.size) : (w.alloc o).frozen? a = w.frozen? a := ((Below.refl w.heap.size w).alloc (Nat.le_refl _) o).frozen h
theorem cell_alloc_lt {w : World} {a : Addr} (o : Obj) (h : a.block < w.heap.size) : (w.alloc o).cell? a = w.cell? a := ((Below.refl w.heap.size w).alloc (Nat.le_refl _) o).cell h
theorem cell_alloc {w : World} {a : Addr} {u : Value} (h : w.cell? a = some u) (o : Obj) : (w.alloc o).cell? a = some u := (cell_alloc_lt o (World.block_lt_of_cell? w _ h)).trans h
theorem From.cell {W0 W : World} (h : From W0 W) {a : Addr} {u : Value} (hc : W0.cell? a = some u) : W.cell? a = some u := (Below.cell h (World.block_lt_of_cell? W0 _ hc)).trans hc
theorem From.heap {W0 W : World} (h : From W0 W) {b : Nat} {o : Obj} (hc : W0.heap[b]? = some o) : W.heap[b]? = some o := (h.block b (Array.getElem?_eq_some_iff.1 hc).1).trans hc

/-- the slice v holds n elements, in the cells cs, below block B -/
structure Sl (w : World) (B : Nat) (v : Value) (n : Nat) (cs : List Value) : Prop where
  out : (v = .slice none 0 0 ∧ n = 0 ∧ cs = []) ∨ ∃ a c, v = .slice (some a) n c ∧ ∀ j u, cs[j]? = some u → ∃ b off, a = ⟨b, off, none⟩ ∧ b < B ∧ w.cell? ⟨b, off + j, none⟩ = some u
theorem Sl.below {w w' : World} {B : Nat} {v : Value} {n : Nat} {cs : List Value} (h : Sl w B v n cs) (hb : Below B w w') : Sl w' B v n cs := by
  rcases h.out with h | ⟨a, c, e, h⟩
  · exact ⟨.inl h⟩
  · refine ⟨.inr ⟨a, c, e, fun j u hj => ?_⟩⟩
    obtain ⟨b, off, e1, e2, e3⟩ := h j u hj
    exact ⟨b, off, e1, e2, (hb.cell (p := ⟨b, _, none⟩) e2).trans e3⟩
theorem Sl.more {w : World} {B B' : Nat} {v : Value} {n : Nat} {cs : List Value} (h : Sl w B v n cs) (hB : B ≤ B') : Sl w B' v n cs := by
  rcases h.out with h | ⟨a, c, e, h⟩
  · exact ⟨.inl h⟩
  · refine ⟨.inr ⟨a, c, e, fun j u hj => ?_⟩⟩
    obtain ⟨b, off, e1, e2, e3⟩ := h j u hj
    exact ⟨b, off, e1, by omega, e3⟩
theorem Sl.from {w w' : World} {v : Value} {n : Nat} {cs : List Value} (h : Sl w w.heap.size v n cs) (hb : From w w') : Sl w' w'.heap.size v n cs := (h.below hb).more (Below.size hb)
theorem Sl.form {w : World} {B : Nat} {v : Value} {n : Nat} {cs : List Value} (h : Sl w B v n cs) : ∃ A c, v = .slice A n c := by
  rcases h.out with ⟨rfl, rfl, rfl⟩ | ⟨a, c, rfl, h⟩
  · exact ⟨_, _, rfl⟩
  · exact ⟨_, _, rfl⟩
theorem Sl.at_ {w : World} {B m n c : Nat} {A : Option Addr} {cs : List Value} (h : Sl w B (.slice A m c) n cs) {j : Nat} {u : Value} (hj : cs[j]? = some u) : ∃ b off, A = some ⟨b, off, none⟩ ∧ b < B ∧ w.cell? ⟨b, off + j, none⟩ = some u := by
  rcases h.out with ⟨_, _, rfl⟩ | ⟨a, c, e, h⟩
  · simp at hj
  · injection e with e1 _ _
    obtain ⟨b, off, e2, e3⟩ := h j u hj
    exact ⟨b, off, by rw [e1, e2], e3⟩
theorem Sl.nil (w : World) (B : Nat) : Sl w B (.slice none 0 0) 0 [] := ⟨.inl ⟨rfl, rfl, rfl⟩⟩
theorem sl_new (w : World) (cs : List Value) (t : TypeId) (n c : Nat) : Sl (w.alloc (.cells cs.toArray t)) (w.heap.size + 1) (.slice (some ⟨w.heap.size, 0, none⟩) n c) n cs := by
  refine ⟨.inr ⟨_, _, rfl, fun j u hj => ⟨w.heap.size, 0, rfl, by omega, ?_⟩⟩⟩
  rw [World.cell?_alloc_new, Nat.zero_add]
  simpa using hj
theorem sl_of_own {w : World} {base size n : Nat} {e : TypeId} {v : Value} {cs : List Value} (h : w.ownsRow base e size v n cs) : Sl w w.heap.size v n cs := by
  rcases h.2 with ⟨rfl, rfl⟩ | ⟨g, cap, cur, rfl, hg, hh, r⟩
  · exact ⟨.inl ⟨rfl, rfl, List.eq_nil_of_length_eq_zero (by have := h.1; omega)⟩⟩
  · refine ⟨.inr ⟨_, _, rfl, fun j u hj => ⟨g, 0, rfl, (Array.getElem?_eq_some_iff.1 hh).1, ?_⟩⟩⟩
    have := h.cells (g := g) rfl j u hj
    rwa [Addr.add_mid] at this
/-- the cells of numbers, of truth values, of bytes -/
def ic (l : List Int) : List Value := l.map fun x => .int .i64 x
def bc (l : List Bool) : List Value := l.map .bool
def yc (l : List Int) : List Value := l.map fun x => .int .u8 x
theorem ic_len (l : List Int) : (ic l).length = l.length := by simp [ic]
theorem bc_len (l : List Bool) : (bc l).length = l.length := by simp [bc]
theorem yc_len (l : List Int) : (yc l).length = l.length := by simp [yc]
theorem ic_append (l m : List Int) : ic (l ++ m) = ic l ++ ic m := by simp [ic]
theorem bc_append (l m : List Bool) : bc (l ++ m) = bc l ++ bc m := by simp [bc]
theorem yc_append (l m : List Int) : yc (l ++ m) = yc l ++ yc m := by simp [yc]
theorem ic_one (l : List Int) : ∀ u ∈ ic l, u.oneCell' = true := by simp [ic, Value.oneCell']
theorem bc_one (l : List Bool) : ∀ u ∈ bc l, u.oneCell' = true := by
  intro u hu
  obtain ⟨b, _, rfl⟩ := List.mem_map.1 hu
  rfl
theorem yc_one (l : List Int) : ∀ u ∈ yc l, u.oneCell' = true := by simp [yc, Value.oneCell']
/-- numbers, truth values, bytes in memory -/
abbrev Ints (w : World) (v : Value) (l : List Int) : Prop := Sl w w.heap.size v l.length (ic l)
abbrev Bools (w : World) (v : Value) (l : List Bool) : Prop := Sl w w.heap.size v l.length (bc l)
abbrev Byts (w : World) (v : Value) (l : List Int) : Prop := Sl w w.heap.size v l.length (yc l)
theorem ints_at {w : World} {B m n c : Nat} {A : Option Addr} {l : List Int} (h : Sl w B (.slice A m c) n (ic l)) {k : Nat} (hk : k < l.length) : ∃ b off, A = some ⟨b, off, none⟩ ∧ b < B ∧ w.cell? ⟨b, off + k, none⟩ = some (.int .i64 l[k]) :=
  h.at_ (by simp [ic, hk])
theorem bools_at {w : World} {B m n c : Nat} {A : Option Addr} {l : List Bool} (h : Sl w B (.slice A m c) n (bc l)) {k : Nat} (hk : k < l.length) : ∃ b off, A = some ⟨b, off, none⟩ ∧ b < B ∧ w.cell? ⟨b, off + k, none⟩ = some (.bool l[k]) :=
  h.at_ (by simp [bc, hk])
theorem byts_at {w : World} {B m n c : Nat} {A : Option Addr} {l : List Int} (h : Sl w B (.slice A m c) n (yc l)) {k : Nat} (hk : k < l.length) : ∃ b off, A = some ⟨b, off, none⟩ ∧ b < B ∧ w.cell? ⟨b, off + k, none⟩ = some (.int .u8 l[k]) :=
  h.at_ (by simp [yc, hk])
theorem ints_nil (w : World) : Ints w (.slice none 0 0) [] := Sl.nil _ _

theorem grown_of_below {W W' : World} (h : Below W.heap.size W W') (row : Option Nat) : W.grownBy W' row := ⟨h.os, h.tape, h.output, h.size, fun i hi _ => h.block i hi⟩
theorem slice_form {w : World} {base size n : Nat} {e : TypeId} {v : Value} {xs : List Value} (h : w.ownsRow base e size v n xs) : ∃ A c, v = .slice A n c := by
  rcases h.2 with ⟨rfl, rfl⟩ | ⟨g, cap, _, rfl, _⟩
  · exact ⟨_, _, rfl⟩
  · exact ⟨_, _, rfl⟩
theorem own_base {w : World} {base base' size n : Nat} {e : TypeId} {v : Value} {xs : List Value} (h : w.ownsRow base e size v n xs) (hb : base' ≤ base) : w.ownsRow base' e size v n xs := by
  refine ⟨h.1, ?_⟩
  rcases h.2 with h | ⟨g, cap, cur, hv, hg, r⟩
  · exact .inl h
  · exact .inr ⟨g, cap, cur, hv, Nat.le_trans hb hg, r⟩
theorem own_setCell {w : World} {base size n : Nat} {e : TypeId} {v : Value} {xs : List Value} (h : w.ownsRow base e size v n xs) {a : Addr} (ha : a.block < base) (u : Value) : (w.setCell a u).ownsRow base e size v n xs := ownsRow_setCell_below h ha u
theorem own_call {W W' : World} {B n size : Nat} {e : TypeId} {v : Value} {xs : List Value} (h : W.ownsRow B e size v n xs) (hb : From W W') : W'.ownsRow B e size v n xs := h.kept (grown_of_below hb none) (by cases v.ownBlock <;> simp)
theorem own_drewN {W : World} {base size n : Nat} {e : TypeId} {v : Value} {xs : List Value} (h : W.ownsRow base e size v n xs) (q : Nat) : (W.drewN q).ownsRow base e size v n xs :=
  own_call h (From.drewN (From.refl _) q)
theorem own_lt {X : World} {B n : Nat} {e : TypeId} {size : Nat} {v : Value} {xs : List Value} (h : X.ownsRow B e size v n xs) {r : Nat} (hr : v.ownBlock = some r) : B ≤ r ∧ r < X.heap.size := h.lt r hr
theorem own_nil (w : World) (base : Nat) (e : TypeId) (size : Nat) : w.ownsRow base e size (.slice none 0 0) 0 [] := World.ownsRow_nil _ _ _ _
theorem owns_empty (w : World) (base : Nat) (hb : base ≤ w.heap.size) (e : TypeId) (s : Nat) : (w.alloc (.cells #[] e)).ownsRow base e s (.slice (some ⟨w.heap.size, 0, none⟩) 0 0) 0 [] :=
  ⟨by simp, .inr ⟨w.heap.size, 0, #[], rfl, hb, heap_alloc_new w _, Nat.le_refl _, Nat.zero_le _, by simp, by simp⟩⟩
theorem own_new (w : World) (base : Nat) (hb : base ≤ w.heap.size) (e : TypeId) (size n : Nat) (cs : List Value) (hn : cs.length = n * size) (hm : n ≤ maxLen) : (w.alloc (.cells cs.toArray e)).ownsRow base e size (.slice (some ⟨w.heap.size, 0, none⟩) n n) n cs :=
  ⟨hn, .inr ⟨w.heap.size, n, cs.toArray, rfl, hb, heap_alloc_new w _, Nat.le_refl _, hm, by simpa using hn, by simp [← hn]⟩⟩
theorem From.app {W w w' : World} {base size n : Nat} {e : TypeId} {v : Value} {xs : List Value} (h : From W w) (hown : w.ownsRow base e size v n xs) (hb : W.heap.size ≤ base) (g : w.grownBy w' v.ownBlock) : From W w' :=
  Below.grown h g h.size (fun k hk => Nat.le_trans hb (hown.lt k hk).1)

/-- what append needs to know of a slice's type -/
structure ElT (P : Program) (t e : TypeId) (z : Value) (size bytes : Nat) : Prop where
  und : P.underlying t = some (.slice e)
  info : ∃ i : TypeInfo, P.info? e = some i ∧ i.zero = some z ∧ i.size = size ∧ i.bytes = bytes
  zs : z.cells.size = size
  pos : 0 < size
/-- append(x, y...): x a row of one's own, y wherever it lies -/
theorem run_app {P : Program} {w : World} {t e : TypeId} {z : Value} {size bytes : Nat} (E : ElT P t e z size bytes) (ty : TypeId) {base n : Nat} {v : Value} {xs : List Value} (hown : w.ownsRow base e size v n xs)
    {B m : Nat} {u : Value} {ys : List Value} (hsrc : Sl w B u m ys) (hm : ys.length = m * size) (h1 : ∀ q ∈ ys, q.oneCell' = true) (hbytes : (n + m) * bytes ≤ 140737488355328) (h63 : n + m ≤ maxLen) (hbase : base ≤ w.heap.size) :
    ∃ A c w', (Builtin.append_ #[t, t] ty #[v, u]).run P w = .ok (.slice A (n + m) c) w' ∧ w'.ownsRow base e size (.slice A (n + m) c) (n + m) (xs ++ ys) ∧ w.grownBy w' v.ownBlock ∧ (∀ r, (Value.slice A (n + m) c).ownBlock = some r → v.ownBlock = some r ∨ w.heap.size ≤ r) := by
  obtain ⟨ht, ⟨i, hi, hz, hsize, hby⟩, hzs, hpos⟩ := E
  rcases hsrc.out with ⟨rfl, rfl, rfl⟩ | ⟨a, c0, rfl, hc⟩
  · have hr := run_append_owned_none (P := P) (w := w) base t ty e i size ht hi v n xs hown
    obtain ⟨A, c, rfl⟩ := slice_form hown
    exact ⟨A, c, w, hr, by simpa using hown, World.grownBy.refl w _, fun r hr => .inl hr⟩
  · have hnews : ∀ j q, ys[j]? = some q → w.cell? (a.add j) = some q := by
      intro j q hj
      obtain ⟨b, off, rfl, _, hcc⟩ := hc j q hj
      rw [Addr.add_mid]; exact hcc
    rcases hown.2 with ⟨rfl, rfl⟩ | ⟨g, cap, cur, rfl, hg, hh, hnc, hcm, hcs, htk⟩
    · obtain rfl : xs = [] := List.eq_nil_of_length_eq_zero (by have := hown.1; omega)
      obtain ⟨v', w', hrun, r1, r2, _⟩ := run_append_own (P := P) w w.heap.size t ty e i z size bytes ht hi hz hsize hby hzs hpos (.slice none 0 0) 0 [] (World.ownsRow_nil w _ e size) a m c0 ys hm hnews h1 h63 hbytes (Nat.le_refl _)
      obtain ⟨A, c, rfl⟩ := slice_form r1
      exact ⟨A, c, w', hrun, own_base r1 hbase, r2, fun r hr => .inr (own_lt r1 hr).1⟩
    · by_cases hr : n + m ≤ cap
      · obtain ⟨w', hrun, r1, r2⟩ := run_append_own_spare (P := P) w base t ty e i size ht hi hsize g n cap xs hown a m c0 ys hm hnews h1 hr
        exact ⟨_, _, w', hrun, r1, r2, fun r hr => .inl hr⟩
      · obtain ⟨v', w', hrun, r1, r2⟩ := run_append_arg_grows (P := P) w t ty e i z size bytes ht hi hz hsize hby hzs hpos ⟨g, 0, none⟩ n cap xs hown.1 (hown.cells (g := g) rfl) a m c0 ys hm hnews (by omega) h63 hbytes
        obtain ⟨A, c, rfl⟩ := slice_form r1
        exact ⟨A, c, w', hrun, own_base r1 hbase, ⟨r2.os, r2.tape, r2.output, r2.size, fun k hk _ => r2.block k hk (by simp)⟩, fun r hr => .inr (own_lt r1 hr).1⟩
theorem app_sl {P : Program} {w : World} {ops : Array Oper} {rest : List Oper} {o : Oper} {a : Act} {Q : Exit → Act → World → Prop} (hgd : o.guard = none) (s x : Operand) (t : TypeId)
    (ho : o.op = .call { callee := .builtin .append, args := #[s, x], argTypes := #[t, t] }) {e : TypeId} {z : Value} {size bytes : Nat} (E : ElT P t e z size bytes)
    {base n : Nat} {v : Value} {xs : List Value} (hs : a.eval s = v) (hown : w.ownsRow base e size v n xs) {B : Nat} {u : Value} (m : Nat) (ys : List Value) (hx : a.eval x = u) (hsrc : Sl w B u m ys)
    (hm : ys.length = m * size) (h1 : ∀ q ∈ ys, q.oneCell' = true) (hbytes : (n + m) * bytes ≤ 140737488355328) (h63 : n + m ≤ maxLen) (hbase : base ≤ w.heap.size)
    (h : ∀ A c w', w'.ownsRow base e size (.slice A (n + m) c) (n + m) (xs ++ ys) → w.grownBy w' v.ownBlock → (∀ r, (Value.slice A (n + m) c).ownBlock = some r → v.ownBlock = some r ∨ w.heap.size ≤ r) → wpList P ops Q rest (a.put o.dst (.slice A (n + m) c)) w') : wpList P ops Q (o :: rest) a w := by
  refine wpList_plain hgd fun K hK => ?_
  obtain ⟨A, c, w', hr, r1, r2, r3⟩ := run_app E o.type hown hsrc hm h1 hbytes h63 hbase
  unfold Oper.wp execOp
  simp only [ho, resolve, invoke, builtin, Sem.run_bind, Sem.run_pure, Result.andThen_ok, List.map_toArray, List.map_cons, List.map_nil, hs, hx, hr]
  exact hK _ _ (h A c w' r1 r2 r3)
theorem step_sl {P : Program} {ops : Array Oper} {o : Oper} {a : Act} {w : World} {K : Act → World → Prop} {Q : Exit → Act → World → Prop} {C : Prop} (hgd : o.guard = none) (s x : Operand) (t : TypeId)
    (ho : o.op = .call { callee := .builtin .append, args := #[s, x], argTypes := #[t, t] }) {e : TypeId} {z : Value} {size bytes : Nat} (E : ElT P t e z size bytes)
    {base n : Nat} {v : Value} {xs : List Value} (hs : a.eval s = v) (hown : w.ownsRow base e size v n xs) {B : Nat} {u : Value} (m : Nat) (ys : List Value) (hx : a.eval x = u) (hsrc : Sl w B u m ys)
    (hm : ys.length = m * size) (h1 : ∀ q ∈ ys, q.oneCell' = true) (hbytes : (n + m) * bytes ≤ 140737488355328) (h63 : n + m ≤ maxLen) (hbase : base ≤ w.heap.size)
    (h : ∀ A c w', w'.ownsRow base e size (.slice A (n + m) c) (n + m) (xs ++ ys) → w.grownBy w' v.ownBlock → (∀ r, (Value.slice A (n + m) c).ownBlock = some r → v.ownBlock = some r ∨ w.heap.size ≤ r) → K (a.put o.dst (.slice A (n + m) c)) w') :
    if Region.wanted o (yielded ops a.tmps) = true then Oper.wp P o a w K Q else C := by
  have hw : Region.wanted o (yielded ops a.tmps) = true := by simp [Region.wanted, hgd]
  rw [if_pos hw]
  obtain ⟨A, c, w', hr, r1, r2, r3⟩ := run_app E o.type hown hsrc hm h1 hbytes h63 hbase
  unfold Oper.wp execOp
  simp only [ho, resolve, invoke, builtin, Sem.run_bind, Sem.run_pure, Result.andThen_ok, List.map_toArray, List.map_cons, List.map_nil, hs, hx, hr]
  exact h A c w' r1 r2 r3
theorem Try.elInt : ElT Try.prog 22 3 (.int .i64 0) 1 8 := ⟨Try.underlying22, info_parts (by kernel_rfl), rfl, by decide⟩
theorem Try.elBool : ElT Try.prog 32 4 (.bool false) 1 1 := ⟨Try.underlying32, info_parts (by kernel_rfl), rfl, by decide⟩
/-- a new row of numbers -/
def RowPost (w : World) (l : List Int) (e : Ending) (w' : World) : Prop :=
  ∃ A c, e = .returned (.slice A l.length c) ∧ w'.ownsRow w.heap.size 3 1 (.slice A l.length c) l.length (ic l) ∧ From w w'
theorem RowPost.of {w w' : World} {A : Option Addr} {n c : Nat} {l : List Int} {base : Nat} (hn : n = l.length) (h : w'.ownsRow base 3 1 (.slice A n c) n (ic l)) (hb : w.heap.size ≤ base) (hf : From w w') : RowPost w l (.returned (.slice A n c)) w' := by
  subst hn
  exact ⟨A, c, rfl, own_base h hb, hf⟩
theorem heap_set_at {W : World} {B : Nat} {cs : Array Value} {t : TypeId} (h : W.heap[B]? = some (.cells cs t (0, 0))) (i : Nat) (v : Value) : (W.setCell ⟨B, i, none⟩ v).heap[B]? = some (.cells (cs.setIfInBounds i v) t (0, 0)) := by
  simp only [World.setCell, Array.getElem?_modify]
  simp [h]
theorem heap_set_off (W : World) {B r : Nat} (hr : r ≠ B) (i : Nat) (v : Value) : (W.setCell ⟨r, i, none⟩ v).heap[B]? = W.heap[B]? := by
  simp only [World.setCell, Array.getElem?_modify]
  rw [if_neg hr]
end Go.Proofs.Ytpdbdpmlppbnnaa
